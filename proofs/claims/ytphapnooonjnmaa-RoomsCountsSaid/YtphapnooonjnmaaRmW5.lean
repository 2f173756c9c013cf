/-
  Package rooms: blocking a room.
-/
import Derived.Test.YtphapnooonjnmaaRmW4
import Derived.Test.YtphapnooonjnmaaSlCut
import Derived.Deep.RegionLaw
import Derived.Test.YtphapnooonjnmaaRmLaw
namespace Go.Proofs.Ytphapnooonjnmaa
set_option linter.unusedSimpArgs false
set_option linter.unusedVariables false
open Go.RowKit
open Go.Sort (grow size_grow)

set_option maxHeartbeats 4000000
set_option maxRecDepth 100000
/-- A room with the place of its spans. -/
abbrev RoomA := Room × Option Addr × Nat
def encA (x : RoomA) : List Value := x.1.cs x.2.1 x.2.2
theorem encA_len (x : RoomA) : (encA x).length = 6 := rfl
theorem encA_one (x : RoomA) : ∀ u ∈ encA x, u.oneCell' = true := by simp [encA, Room.cs, Value.oneCell']
theorem elemRoom : Elem Try.prog 22 25 6 64 := elem_mk Try.underlying22 (by kernel_rfl)
theorem SlRoom.toA {w : World} {A : Option Addr} {l : List Room} (h : SlRoom w A l) : ∃ L : List RoomA, L.map (·.1) = l ∧ Sl w w.heap.size 6 encA A L ∧ ∀ x ∈ L, SlSpn w x.2.1 x.1.blk := by
  by_cases hl : l = []
  · subst hl
    exact ⟨[], rfl, Sl.nil_, by simp⟩
  · obtain ⟨b, off, e, hb, hc⟩ := h hl
    have hx : ∀ i : Fin l.length, ∃ y : Option Addr × Nat, (∀ j v, (l[i.val].cs y.1 y.2)[j]? = some v → w.cell? ⟨b, off + i.val * 6 + j, none⟩ = some v) ∧ SlSpn w y.1 l[i.val].blk := fun i => by
      obtain ⟨A', c', h1, h2⟩ := hc i.val i.isLt
      exact ⟨(A', c'), h1, h2⟩
    refine ⟨List.ofFn fun i : Fin l.length => (l[i.val], (hx i).choose), ?_, fun _ => ⟨b, off, e, hb, fun k hk j v hv => ?_⟩, fun x hx' => ?_⟩
    · refine List.ext_getElem (by simp) fun n h1 h2 => ?_
      simp
    · rw [List.length_ofFn] at hk
      rw [List.getElem_ofFn] at hv
      exact (hx ⟨k, hk⟩).choose_spec.1 j v hv
    · obtain ⟨k, hk, rfl⟩ := List.getElem_of_mem hx'
      rw [List.length_ofFn] at hk
      rw [List.getElem_ofFn]
      exact (hx ⟨k, hk⟩).choose_spec.2
theorem SlRoom.ofA {w : World} {A : Option Addr} {L : List RoomA} (h1 : Sl w w.heap.size 6 encA A L) (h2 : ∀ x ∈ L, SlSpn w x.2.1 x.1.blk) : SlRoom w A (L.map (·.1)) := fun hl => by
  obtain ⟨b, off, e, hb, hc⟩ := h1 (by rintro rfl; exact hl rfl)
  refine ⟨b, off, e, hb, fun k hk => ?_⟩
  rw [List.length_map] at hk
  refine ⟨L[k].2.1, L[k].2.2, fun j v hv => hc k hk j v ?_, ?_⟩
  · rw [List.getElem_map] at hv
    exact hv
  · rw [List.getElem_map]
    exact h2 _ (List.getElem_mem hk)
/-- What blocking hands back. -/
def BlockR (l : List Room) (a : Int) (s : Spn) (res : List Room) (er : Int) : Prop :=
  if (roomsOk l && inB a 1 1000000 && perOk s) = true then
    (idxR l a < 0 ∧ res = [] ∧ er = 4) ∨ (∃ k : Nat, ∃ hk : k < l.length, ∃ u, idxR l a = k ∧ IsComb fU l[k].blk [s] u ∧ u.length ≤ 2 * (l[k].blk.length + 1) ∧ res = l.set k (l[k].with_ u) ∧ er = 0)
  else res = [] ∧ er = 1
theorem BlockR.eq {l : List Room} {a : Int} {s : Spn} {r r' : List Room} {x x' : Int} (h : BlockR l a s r x) (h' : BlockR l a s r' x') : r' = r ∧ x' = x := by
  unfold BlockR at h h'
  by_cases hv : (roomsOk l && inB a 1 1000000 && perOk s) = true
  · rw [if_pos hv] at h h'
    rcases h with ⟨h1, rfl, rfl⟩ | ⟨k, hk, u, h1, h2, _, rfl, rfl⟩
    · rcases h' with ⟨_, rfl, rfl⟩ | ⟨k, hk, u, h3, _⟩
      · exact ⟨rfl, rfl⟩
      · omega
    · rcases h' with ⟨h3, _⟩ | ⟨k', hk', u', h3, h4, _, rfl, rfl⟩
      · omega
      · obtain rfl : k' = k := by omega
        obtain rfl := h2.eq h4
        exact ⟨rfl, rfl⟩
  · rw [if_neg hv] at h h'
    exact ⟨h'.1.trans h.1.symm, h'.2.trans h.2.symm⟩
theorem set_parts {α : Type} {l : List α} {k : Nat} (hk : k < l.length) (y : α) : l.take k ++ [y] ++ l.drop (k + 1) = l.set k y := by
  rw [List.set_eq_take_append_cons_drop, if_pos hk]
  simp
theorem SlSpn.setSl {w : World} {A : Option Addr} {l : List Spn} {p : Addr} {a : Option Addr} {n c : Nat} {v : Value} (h : SlSpn w A l) (hp : w.cell? p = some (.slice a n c)) : SlSpn (w.setCell p v) A l := fun hne => by
  obtain ⟨b, off, e, hb, hc⟩ := h hne
  refine ⟨b, off, e, by simpa using hb, fun j hj r u hu => ?_⟩
  have h1 := hc j hj r u hu
  rw [World.cell?_setCell_other]
  · exact h1
  · intro e'
    rw [e', h1] at hp
    injection hp with hp
    subst hp
    match r, hu with
    | 0, hu => simp [Spn.cs] at hu
    | 1, hu => simp [Spn.cs] at hu
    | r + 2, hu => simp [Spn.cs] at hu
/-- What a call that blocks hands back. -/
def BlockE (l : List Room) (a : Int) (s : Spn) (e : Ending) (w' : World) : Prop :=
  ∃ res A' c' er, e = .returned (.tuple #[.slice A' res.length c', .int .i64 er]) ∧ SlRoom w' A' res ∧ BlockR l a s res er ∧ res.length ≤ c'
theorem blockE_arg {l : List Room} {a : Int} {s : Spn} {w' : World} (h : (roomsOk l && inB a 1 1000000 && perOk s) = false) : BlockE l a s (.returned (.tuple #[.slice none 0 0, .int .i64 1])) w' := by
  refine ⟨[], none, 0, 1, rfl, SlRoom.nil_, ?_, Nat.le_refl _⟩
  unfold BlockR
  rw [h]
  exact ⟨rfl, rfl⟩
theorem blockE_none {l : List Room} {a : Int} {s : Spn} {w' : World} (h : (roomsOk l && inB a 1 1000000 && perOk s) = true) (hi : idxR l a < 0) : BlockE l a s (.returned (.tuple #[.slice none 0 0, .int .i64 4])) w' := by
  refine ⟨[], none, 0, 4, rfl, SlRoom.nil_, ?_, Nat.le_refl _⟩
  unfold BlockR
  rw [if_pos h]
  exact .inl ⟨hi, rfl, rfl⟩
theorem parts_len {α : Type} {l : List α} {k : Nat} (hk : k < l.length) (y : α) : (l.take k ++ [y] ++ l.drop (k + 1)).length = l.length := by
  rw [set_parts hk, List.length_set]
theorem block_ok (l : List Room) (A : Option Addr) (c : Nat) (a : Int) (s : Spn) (w : World) (hs : SlRoom w A l) (hT : Tame l) (hroom : l.length ≤ c)
    (h1 : roomsOk l = true) (h2 : inB a 1 1000000 = true) (h3 : perOk s = true) (k : Nat) (hk : k < l.length) (hix : idxR l a = k) :
    Calls Try.prog 17 #[.slice A l.length c, .int .i64 a, s.v] w fun e w' => BlockE l a s e w' ∧ Below w.heap.size w w' := by
  have HBE : Hid (∀ u A' c' w', IsComb fU l[k].blk [s] u → u.length ≤ 2 * (l[k].blk.length + 1) → SlRoom w' A' (l.set k (l[k].with_ u)) → l.length ≤ c' → BlockE l a s (.returned (.tuple #[.slice A' l.length c', .int .i64 0])) w') := Lib.hid (fun u A' c' w' e1 e2 e3 e4 => by
    refine ⟨l.set k (l[k].with_ u), A', c', 0, by rw [List.length_set], e3, ?_, by rw [List.length_set]; exact e4⟩
    unfold BlockR
    rw [if_pos (by rw [h1, h2, h3]; rfl)]
    exact .inr ⟨k, hk, u, hix, e1, e2, rfl, rfl⟩)
  have hl4 := (roomsOk_iff.1 h1).1
  have hokk := (roomsOk_iff.1 h1).2.1 _ (List.getElem_mem hk)
  have hset := (Room.ok_iff.1 hokk).2.1
  have hsok : s.ok = true := Spn.ok_iff.2 (by have := perOk_iff.1 h3; omega)
  have hsv : setOk [s] = true := by rw [setOk_one]; exact hsok
  have hbk := hT.at_ hk
  have HH := Lib.hid (And.intro hokk (And.intro hset (And.intro hsok hsv)))
  have HT := Lib.hid hT
  clear hokk hset hsok hsv hT
  obtain ⟨L, hLl, hLs, hLp⟩ := hs.toA
  have hLn : L.length = l.length := by rw [← hLl, List.length_map]
  have HL := Lib.hid (And.intro hLl (And.intro hLs hLp))
  clear hLl hLs hLp
  have hx1 : (k : Int) < (l.length : Int) := by omega
  have hx4 : (0 : Int) ≤ (k : Int) := by omega
  have hx5 : ¬ ((k : Int) < 0) := by omega
  have hx6 : decide ((k : Int) < 0) = false := by simp
  have hs0 := hs
  go_enter Try.func17, Try.ntmps17
  go_wp2_with fail
  refine (rmvalid_any l A c _ (hs.up (by repeat' (first | (with_reducible exact Below.refl _ _) | (with_reducible assumption) | (with_reducible refine below_drewN ?_ _) | (with_reducible refine Below.drew ?_) | (with_reducible refine below_regrown_up _ _ ?_ ?_) | (with_reducible refine Below.alloc ?_ ?_ _) | (with_reducible refine Below.setCell ?_ ?_ _) | (with_reducible refine below_up ?_ ?_ (by assumption)) | (with_reducible exact Nat.le_refl _) | omega | (simp; done) | (simp; omega)))) (by omega) HT.out).mono ?_
  rintro e w1 ⟨rfl, hb1⟩; have hz1 := hb1.size; (try simp only [World.size_alloc, World.size_setCell, World.size_drew, size_drewN', size_grow, size_redrawn] at hz1); obtain ⟨hc1, hf1⟩ := bcellB (B := w.heap.size + 1) hb1 (by first | omega | (simp only [World.size_alloc, World.size_setCell, World.size_drew, size_drewN', size_grow, size_redrawn]; omega))
  rw [h1]
  have HB1 : Below w.heap.size w w1 := (by repeat' (first | (with_reducible exact Below.refl _ _) | (with_reducible assumption) | (with_reducible refine below_drewN ?_ _) | (with_reducible refine Below.drew ?_) | (with_reducible refine below_regrown_up _ _ ?_ ?_) | (with_reducible refine Below.alloc ?_ ?_ _) | (with_reducible refine Below.setCell ?_ ?_ _) | (with_reducible refine below_up ?_ ?_ (by assumption)) | (with_reducible exact Nat.le_refl _) | omega | (simp; done) | (simp; omega)))
  go_wp2_with fail
  refine (rm_within_any _ _ _ _).mono ?_
  rintro e w2 ⟨rfl, rfl⟩
  rw [h2]
  go_wp2_with fail
  refine (isPeriod_any s _).mono ?_
  rintro e w3 ⟨rfl, hb3⟩; have hz3 := hb3.size; (try simp only [World.size_alloc, World.size_setCell, World.size_drew, size_drewN', size_grow, size_redrawn] at hz3); obtain ⟨hc3, hf3⟩ := bcellB (B := w.heap.size + 1) hb3 (by first | omega | (simp only [World.size_alloc, World.size_setCell, World.size_drew, size_drewN', size_grow, size_redrawn]; omega))
  rw [h3]
  have HB3 : Below w.heap.size w w3 := below_up HB1 (by omega) hb3
  go_wp2_with fail
  refine (index_any l A c a _ (hs.up HB3) (by omega)).mono ?_
  rintro e w4 ⟨rfl, hb4⟩; have hz4 := hb4.size; (try simp only [World.size_alloc, World.size_setCell, World.size_drew, size_drewN', size_grow, size_redrawn] at hz4); obtain ⟨hc4, hf4⟩ := bcellB (B := w.heap.size + 1) hb4 (by first | omega | (simp only [World.size_alloc, World.size_setCell, World.size_drew, size_drewN', size_grow, size_redrawn]; omega))
  rw [hix]
  have HB4 : Below w.heap.size w w4 := below_up HB3 (by omega) hb4
  obtain ⟨b, off, A', c', hAe, hbl, hcell, hsp⟩ := (hs.up HB4).at_ hk
  subst hAe
  have q0 := hcell 0 _ rfl
  have q1 := hcell 1 _ rfl
  have q2 := hcell 2 _ rfl
  have q3 := hcell 3 _ rfl
  have q4 := hcell 4 _ rfl
  have q5 := hcell 5 _ rfl
  rw [Nat.add_zero] at q0
  clear hcell
  have x0 : w4.cell? ⟨w.heap.size, 0, none⟩ = some (.int .i64 s.frm) := by rw [hc4 _ _ (by omega), hc3 _ _ (by omega), hc1 _ _ (by omega)]; go_simp
  have x1 : w4.cell? ⟨w.heap.size, 1, none⟩ = some (.int .i64 s.til) := by rw [hc4 _ _ (by omega), hc3 _ _ (by omega), hc1 _ _ (by omega)]; go_simp
  have xl : w.heap.size < w4.heap.size := by omega
  clear hc1 hc3 hc4 hf1 hf3 hf4
  go_wp2_with fail
  refine (union_any l[k].blk [s] A' (some ⟨w4.heap.size + 1, 0, none⟩) c' 1 _ (hsp.up ((Below.alloc (Below.refl _ _) (Nat.le_refl _) _).alloc (by simp) _)) (oneSpn s _ _ (by simp)) (by omega) (by simp) (fun _ _ => by simp; omega)).mono ?_
  rintro e w5 ⟨hC, hb5⟩
  unfold CombR at hC
  rw [HH.out.2.1, HH.out.2.2.2, if_pos (by rfl)] at hC
  obtain ⟨u, A5, c5, rfl, hs5, hcb, hlu⟩ := hC
  have hz5 := hb5.size
  (try simp only [World.size_alloc] at hz5)
  obtain ⟨hc5, hf5⟩ := bcellB (B := w4.heap.size + 1) hb5 (by simp)
  have HB5 : Below w.heap.size w w5 := (by repeat' (first | (with_reducible exact Below.refl _ _) | (with_reducible assumption) | (with_reducible refine below_drewN ?_ _) | (with_reducible refine Below.drew ?_) | (with_reducible refine below_regrown_up _ _ ?_ ?_) | (with_reducible refine Below.alloc ?_ ?_ _) | (with_reducible refine Below.setCell ?_ ?_ _) | (with_reducible refine below_up ?_ ?_ (by assumption)) | (with_reducible exact Nat.le_refl _) | omega | (simp; done) | (simp; omega)))
  have hlt5 : w4.heap.size < w5.heap.size := by omega
  have r5 : w5.cell? ⟨w4.heap.size, 5, none⟩ = some (.slice A' l[k].blk.length c') := by rw [hc5 _ _ (by omega)]; go_simp
  have HR5 := Lib.hid r5
  have hM1 : (L.take k).length = k := by rw [List.length_take]; omega
  have hM2 : (L.drop (k + 1)).length = l.length - (k + 1) := by rw [List.length_drop]; omega
  have HM1 := Lib.hid hM1
  have HM2 := Lib.hid hM2
  clear hM1 hM2 r5
  have hp1 : (k : Int) + 1 ≤ (l.length : Int) := by omega
  have hp2 : k + 1 ≤ l.length := by omega
  have hp3 : k + 1 ≤ c := by omega
  have hp4 : k ≤ c := by omega
  have hp5 : (0 : Int) ≤ (k : Int) + 1 := by omega
  have hp6 : ((k : Int) + 1).toNat = k + 1 := by omega
  have hwr : IntKind.i64.wrap ((k : Int) + 1) = (k : Int) + 1 := by rw [IntKind.wrap_i64]; omega
  have e0 : w5.cell? ⟨w4.heap.size, 0, none⟩ = some (.int .i64 l[k].id) := by rw [hc5 _ _ (by omega)]; go_simp
  have e1 : w5.cell? ⟨w4.heap.size, 1, none⟩ = some (.int .i64 l[k].house) := by rw [hc5 _ _ (by omega)]; go_simp
  have e2 : w5.cell? ⟨w4.heap.size, 2, none⟩ = some (.int .i64 l[k].kind) := by rw [hc5 _ _ (by omega)]; go_simp
  have e3 : w5.cell? ⟨w4.heap.size, 3, none⟩ = some (.int .i64 l[k].joins) := by rw [hc5 _ _ (by omega)]; go_simp
  have e4 : w5.cell? ⟨w4.heap.size, 4, none⟩ = some (.bool l[k].acc) := by rw [hc5 _ _ (by omega)]; go_simp
  have e5 := HR5.out
  have f5 : w5.frozen? ⟨w4.heap.size, 5, none⟩ = false := by rw [hf5 _ _ (by omega)]; go_simp
  clear hc5 hf5 hb5 q0 q1 q2 q3 q4 q5 x0 x1
  go_wp2_with fail
  refine name_world (fun w6 hw6 => ?_)
  have g0 : w6.cell? ⟨w4.heap.size, 0, none⟩ = some (.int .i64 l[k].id) := by rw [hw6]; go_simp
  have g1 : w6.cell? ⟨w4.heap.size, 1, none⟩ = some (.int .i64 l[k].house) := by rw [hw6]; go_simp
  have g2 : w6.cell? ⟨w4.heap.size, 2, none⟩ = some (.int .i64 l[k].kind) := by rw [hw6]; go_simp
  have g3 : w6.cell? ⟨w4.heap.size, 3, none⟩ = some (.int .i64 l[k].joins) := by rw [hw6]; go_simp
  have g4 : w6.cell? ⟨w4.heap.size, 4, none⟩ = some (.bool l[k].acc) := by rw [hw6]; go_simp
  have g5 : w6.cell? ⟨w4.heap.size, 5, none⟩ = some (.slice A5 u.length c5) := by rw [hw6]; exact World.cell?_setCell_same _ _ _ e5
  have hsz6 : w6.heap.size = w5.heap.size := by rw [hw6]; simp
  have HB6 : Below w.heap.size w w6 := by
    rw [hw6]
    repeat' (first
      | (with_reducible exact Below.refl _ _)
      | (with_reducible assumption)
      | (with_reducible refine below_drewN ?_ _)
      | (with_reducible refine Below.drew ?_)
      | (with_reducible refine below_regrown_up _ _ ?_ ?_)
      | (with_reducible refine Below.alloc ?_ ?_ _)
      | (with_reducible refine Below.setCell ?_ ?_ _)
      | (with_reducible refine below_up ?_ ?_ (by assumption))
      | (with_reducible exact Nat.le_refl _)
      | omega
      | (simp; done)
      | (simp; omega))
  have hs6 : SlSpn w6 A5 u := by rw [hw6]; exact hs5.setSl e5
  have hlt6 : w4.heap.size < w6.heap.size := by omega
  clear e0 e1 e2 e3 e4 e5 f5 hw6 hs5 hsz6
  have hsl6 : Sl w6 w6.heap.size 6 encA (some ⟨b, off, none⟩) L := HL.out.2.1.up HB6
  obtain ⟨AX, hAX, hslX⟩ := hsl6.cut (cap := c) (k + 1) (by omega)
  have HY : Hid (∀ w7 : World, Below w6.heap.size w6 w7 → ∀ x ∈ L.take k ++ [((l[k].with_ u, A5, c5) : RoomA)] ++ L.drop (k + 1), SlSpn w7 x.2.1 x.1.blk) := Lib.hid (fun w7 hb7 x hx => by
    rcases List.mem_append.1 hx with hx | hx
    · rcases List.mem_append.1 hx with hx | hx
      · exact ((HL.out.2.2 x (List.mem_of_mem_take hx)).up HB6).up hb7
      · obtain rfl : x = _ := List.mem_singleton.1 hx
        exact hs6.up hb7
    · exact ((HL.out.2.2 x (List.mem_of_mem_drop hx)).up HB6).up hb7)
  have HZ : Hid ((L.take k ++ [((l[k].with_ u, A5, c5) : RoomA)] ++ L.drop (k + 1)).map (·.1) = l.set k (l[k].with_ u)) := Lib.hid (by
    rw [set_parts (by omega), List.map_set, HL.out.1])
  have HN : Hid ((L.take k ++ [((l[k].with_ u, A5, c5) : RoomA)] ++ L.drop (k + 1)).length = l.length) := Lib.hid (by
    rw [parts_len (by omega), hLn])
  have HNW : Hid (∀ j v, (encA (l[k].with_ u, A5, c5))[j]? = some v → (w6.drew.alloc (.cells #[.int .i64 l[k].id, .int .i64 l[k].house, .int .i64 l[k].kind, .int .i64 l[k].joins, .bool l[k].acc, .slice A5 u.length c5] 25)).cell? ⟨w6.heap.size, j, none⟩ = some v) := Lib.hid (news_at (w := w6.drew) #[.int .i64 l[k].id, .int .i64 l[k].house, .int .i64 l[k].kind, .int .i64 l[k].joins, .bool l[k].acc, .slice A5 u.length c5] 25 (encA (l[k].with_ u, A5, c5)) rfl rfl)
  go_region_law (first
    | (go_loud (refine step_push_full _ (by rfl) (.tmp 50) (.tmp 52) 22 25 (by rfl) 6 64 encA elemRoom encA_len encA_one ⟨b, off, none⟩ k (L.take k) HM1.out (by rfl) w6.heap.size ((hsl6.take k).below ((Below.refl _ _).drew.alloc (by simp) _)) w6.heap.size 1 (l[k].with_ u, A5, c5) (by rfl) HNW.out (by omega) (by omega) ?_); intro v7 w7 hown7 hgrow7; have hb7 : Below w6.heap.size w6 w7 := ((Below.refl _ _).drew.alloc (by simp) _).grown hgrow7 (by simp) (fun k e => by cases e))
    | (go_loud (refine step_append_all _ (by rfl) (.tmp 53) (.tmp 57) 22 25 (by rfl) _ 6 64 encA elemRoom encA_len encA_one _ (L.take k ++ [((l[k].with_ u, A5, c5) : RoomA)]) (by rfl) hown7 AX _ _ (L.drop (k + 1)) (by rw [HM2.out]; rfl) (hslX.below hb7) (by rw [List.length_append, HM1.out, HM2.out]; simp; omega) (by omega) hgrow7.size ?_); intro v9 w9 hown9 hgrow9 hat9))
  all_goals
    have hb9 : Below w6.heap.size w6 w9 := below_push hb7 (hown7.more (by simp)) hgrow9 hb7.size
    obtain ⟨A9, c9, rfl, hle9, _, hs9⟩ := hown9.sl encA_len
    have hfin : SlRoom w9 A9 (l.set k (l[k].with_ u)) := by
      rw [← HZ.out]
      exact SlRoom.ofA hs9 (HY.out w9 hb9)
    rw [HN.out] at hle9 ⊢
    have HF := Lib.hid (And.intro hfin (below_up HB6 HB6.size hb9))
    clear hfin hs9 hown9 hown7 hgrow7 hgrow9 hat9
    go_wp2_with fail
    go_ret2
    exact ⟨HBE.out u A9 c9 w9 hcb (by simpa using hlu) HF.out.1 hle9, HF.out.2⟩
theorem block_any (l : List Room) (A : Option Addr) (c : Nat) (a : Int) (s : Spn) (w : World) (hs : SlRoom w A l) (hT : Tame l) (hroom : l.length ≤ c) (hl : l.length ≤ 140737488355328) :
    Calls Try.prog 17 #[.slice A l.length c, .int .i64 a, s.v] w fun e w' => BlockE l a s e w' ∧ Below w.heap.size w w' := by
  cases hv : roomsOk l
  · have HB := Lib.hid (fun w' => blockE_arg (l := l) (a := a) (s := s) (w' := w') (by rw [hv]; rfl))
    go_enter Try.func17, Try.ntmps17
    go_wp2_with fail
    refine (rmvalid_any l A c _ (hs.up (by repeat' (first | (with_reducible exact Below.refl _ _) | (with_reducible assumption) | (with_reducible refine below_drewN ?_ _) | (with_reducible refine Below.drew ?_) | (with_reducible refine below_regrown_up _ _ ?_ ?_) | (with_reducible refine Below.alloc ?_ ?_ _) | (with_reducible refine Below.setCell ?_ ?_ _) | (with_reducible refine below_up ?_ ?_ (by assumption)) | (with_reducible exact Nat.le_refl _) | omega | (simp; done) | (simp; omega)))) hl hT).mono ?_
    rintro e w1 ⟨rfl, hb1⟩; have hz1 := hb1.size; (try simp only [World.size_alloc, World.size_setCell, World.size_drew, size_drewN', size_grow, size_redrawn] at hz1); obtain ⟨hc1, hf1⟩ := bcellB (B := w.heap.size + 1) hb1 (by first | omega | (simp only [World.size_alloc, World.size_setCell, World.size_drew, size_drewN', size_grow, size_redrawn]; omega))
    rw [hv]
    go_wp2_with fail
    go_ret2
    refine ⟨HB.out w1, ?_⟩
    repeat' (first
      | (with_reducible exact Below.refl _ _)
      | (with_reducible assumption)
      | (with_reducible refine below_drewN ?_ _)
      | (with_reducible refine Below.drew ?_)
      | (with_reducible refine below_regrown_up _ _ ?_ ?_)
      | (with_reducible refine Below.alloc ?_ ?_ _)
      | (with_reducible refine Below.setCell ?_ ?_ _)
      | (with_reducible refine below_up ?_ ?_ (by assumption))
      | (with_reducible exact Nat.le_refl _)
      | omega
      | (simp; done)
      | (simp; omega))
  cases hi : inB a 1 1000000
  · have HB := Lib.hid (fun w' => blockE_arg (l := l) (a := a) (s := s) (w' := w') (by rw [hv, hi]; rfl))
    go_enter Try.func17, Try.ntmps17
    go_wp2_with fail
    refine (rmvalid_any l A c _ (hs.up (by repeat' (first | (with_reducible exact Below.refl _ _) | (with_reducible assumption) | (with_reducible refine below_drewN ?_ _) | (with_reducible refine Below.drew ?_) | (with_reducible refine below_regrown_up _ _ ?_ ?_) | (with_reducible refine Below.alloc ?_ ?_ _) | (with_reducible refine Below.setCell ?_ ?_ _) | (with_reducible refine below_up ?_ ?_ (by assumption)) | (with_reducible exact Nat.le_refl _) | omega | (simp; done) | (simp; omega)))) hl hT).mono ?_
    rintro e w1 ⟨rfl, hb1⟩; have hz1 := hb1.size; (try simp only [World.size_alloc, World.size_setCell, World.size_drew, size_drewN', size_grow, size_redrawn] at hz1); obtain ⟨hc1, hf1⟩ := bcellB (B := w.heap.size + 1) hb1 (by first | omega | (simp only [World.size_alloc, World.size_setCell, World.size_drew, size_drewN', size_grow, size_redrawn]; omega))
    rw [hv]
    go_wp2_with fail
    refine (rm_within_any _ _ _ _).mono ?_
    rintro e w2 ⟨rfl, rfl⟩
    rw [hi]
    go_wp2_with fail
    go_ret2
    refine ⟨HB.out w1, ?_⟩
    repeat' (first
      | (with_reducible exact Below.refl _ _)
      | (with_reducible assumption)
      | (with_reducible refine below_drewN ?_ _)
      | (with_reducible refine Below.drew ?_)
      | (with_reducible refine below_regrown_up _ _ ?_ ?_)
      | (with_reducible refine Below.alloc ?_ ?_ _)
      | (with_reducible refine Below.setCell ?_ ?_ _)
      | (with_reducible refine below_up ?_ ?_ (by assumption))
      | (with_reducible exact Nat.le_refl _)
      | omega
      | (simp; done)
      | (simp; omega))
  cases hp : perOk s
  · have HB := Lib.hid (fun w' => blockE_arg (l := l) (a := a) (s := s) (w' := w') (by rw [hv, hi, hp]; rfl))
    go_enter Try.func17, Try.ntmps17
    go_wp2_with fail
    refine (rmvalid_any l A c _ (hs.up (by repeat' (first | (with_reducible exact Below.refl _ _) | (with_reducible assumption) | (with_reducible refine below_drewN ?_ _) | (with_reducible refine Below.drew ?_) | (with_reducible refine below_regrown_up _ _ ?_ ?_) | (with_reducible refine Below.alloc ?_ ?_ _) | (with_reducible refine Below.setCell ?_ ?_ _) | (with_reducible refine below_up ?_ ?_ (by assumption)) | (with_reducible exact Nat.le_refl _) | omega | (simp; done) | (simp; omega)))) hl hT).mono ?_
    rintro e w1 ⟨rfl, hb1⟩; have hz1 := hb1.size; (try simp only [World.size_alloc, World.size_setCell, World.size_drew, size_drewN', size_grow, size_redrawn] at hz1); obtain ⟨hc1, hf1⟩ := bcellB (B := w.heap.size + 1) hb1 (by first | omega | (simp only [World.size_alloc, World.size_setCell, World.size_drew, size_drewN', size_grow, size_redrawn]; omega))
    rw [hv]
    go_wp2_with fail
    refine (rm_within_any _ _ _ _).mono ?_
    rintro e w2 ⟨rfl, rfl⟩
    rw [hi]
    go_wp2_with fail
    refine (isPeriod_any s _).mono ?_
    rintro e w3 ⟨rfl, hb3⟩; have hz3 := hb3.size; (try simp only [World.size_alloc, World.size_setCell, World.size_drew, size_drewN', size_grow, size_redrawn] at hz3); obtain ⟨hc3, hf3⟩ := bcellB (B := w.heap.size + 1) hb3 (by first | omega | (simp only [World.size_alloc, World.size_setCell, World.size_drew, size_drewN', size_grow, size_redrawn]; omega))
    rw [hp]
    go_wp2_with fail
    go_ret2
    refine ⟨HB.out w3, ?_⟩
    repeat' (first
      | (with_reducible exact Below.refl _ _)
      | (with_reducible assumption)
      | (with_reducible refine below_drewN ?_ _)
      | (with_reducible refine Below.drew ?_)
      | (with_reducible refine below_regrown_up _ _ ?_ ?_)
      | (with_reducible refine Below.alloc ?_ ?_ _)
      | (with_reducible refine Below.setCell ?_ ?_ _)
      | (with_reducible refine below_up ?_ ?_ (by assumption))
      | (with_reducible exact Nat.le_refl _)
      | omega
      | (simp; done)
      | (simp; omega))
  rcases idxR_cases l a with ⟨hx, _⟩ | ⟨k, hk, hx, _⟩
  · have HB := Lib.hid (fun w' => blockE_none (l := l) (a := a) (s := s) (w' := w') (by rw [hv, hi, hp]; rfl) (by omega))
    go_enter Try.func17, Try.ntmps17
    go_wp2_with fail
    refine (rmvalid_any l A c _ (hs.up (by repeat' (first | (with_reducible exact Below.refl _ _) | (with_reducible assumption) | (with_reducible refine below_drewN ?_ _) | (with_reducible refine Below.drew ?_) | (with_reducible refine below_regrown_up _ _ ?_ ?_) | (with_reducible refine Below.alloc ?_ ?_ _) | (with_reducible refine Below.setCell ?_ ?_ _) | (with_reducible refine below_up ?_ ?_ (by assumption)) | (with_reducible exact Nat.le_refl _) | omega | (simp; done) | (simp; omega)))) hl hT).mono ?_
    rintro e w1 ⟨rfl, hb1⟩; have hz1 := hb1.size; (try simp only [World.size_alloc, World.size_setCell, World.size_drew, size_drewN', size_grow, size_redrawn] at hz1); obtain ⟨hc1, hf1⟩ := bcellB (B := w.heap.size + 1) hb1 (by first | omega | (simp only [World.size_alloc, World.size_setCell, World.size_drew, size_drewN', size_grow, size_redrawn]; omega))
    rw [hv]
    have HB1 : Below w.heap.size w w1 := (by repeat' (first | (with_reducible exact Below.refl _ _) | (with_reducible assumption) | (with_reducible refine below_drewN ?_ _) | (with_reducible refine Below.drew ?_) | (with_reducible refine below_regrown_up _ _ ?_ ?_) | (with_reducible refine Below.alloc ?_ ?_ _) | (with_reducible refine Below.setCell ?_ ?_ _) | (with_reducible refine below_up ?_ ?_ (by assumption)) | (with_reducible exact Nat.le_refl _) | omega | (simp; done) | (simp; omega)))
    go_wp2_with fail
    refine (rm_within_any _ _ _ _).mono ?_
    rintro e w2 ⟨rfl, rfl⟩
    rw [hi]
    go_wp2_with fail
    refine (isPeriod_any s _).mono ?_
    rintro e w3 ⟨rfl, hb3⟩; have hz3 := hb3.size; (try simp only [World.size_alloc, World.size_setCell, World.size_drew, size_drewN', size_grow, size_redrawn] at hz3); obtain ⟨hc3, hf3⟩ := bcellB (B := w.heap.size + 1) hb3 (by first | omega | (simp only [World.size_alloc, World.size_setCell, World.size_drew, size_drewN', size_grow, size_redrawn]; omega))
    rw [hp]
    have HB3 : Below w.heap.size w w3 := below_up HB1 (by omega) hb3
    go_wp2_with fail
    refine (index_any l A c a _ (hs.up HB3) hl).mono ?_
    rintro e w4 ⟨rfl, hb4⟩; have hz4 := hb4.size; (try simp only [World.size_alloc, World.size_setCell, World.size_drew, size_drewN', size_grow, size_redrawn] at hz4); obtain ⟨hc4, hf4⟩ := bcellB (B := w.heap.size + 1) hb4 (by first | omega | (simp only [World.size_alloc, World.size_setCell, World.size_drew, size_drewN', size_grow, size_redrawn]; omega))
    rw [hx]
    go_wp2_with fail
    go_ret2
    exact ⟨HB.out w4, below_up HB3 (by omega) hb4⟩
  · exact block_ok l A c a s w hs hT hroom hv hi hp k hk hx
end Go.Proofs.Ytphapnooonjnmaa
