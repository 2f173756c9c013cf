/-
  The reference of package rooms: blocking a room.
-/
import Derived.Test.YtphapnooonjnmaaRmW5
namespace Go.Proofs.Ytphapnooonjnmaa
set_option linter.unusedSimpArgs false
set_option linter.unusedVariables false
open Go.RowKit
open Go.Sort (grow size_grow)

set_option maxHeartbeats 4000000
set_option maxRecDepth 100000
theorem flat_set1 {α : Type} {size : Nat} {enc : α → List Value} (he : ∀ x, (enc x).length = size) : ∀ (L : List α) {k : Nat} (hk : k < L.length) {r : Nat} {v : Value} {y : α}, r < size → enc y = (enc L[k]).set r v → (L.set k y).flatMap enc = (L.flatMap enc).set (k * size + r) v
  | x :: L, 0, _, r, v, y, hr, hy => by
    rw [List.set_cons_zero, List.flatMap_cons, List.flatMap_cons, Nat.zero_mul, Nat.zero_add, List.set_append_left _ _ (by rw [he]; exact hr)]
    rw [hy]
    rfl
  | x :: L, k + 1, hk, r, v, y, hr, hy => by
    rw [List.set_cons_succ, List.flatMap_cons, List.flatMap_cons, List.set_append_right _ _ (by rw [he, Nat.add_mul]; omega), he]
    rw [flat_set1 he L (k := k) (by simpa using hk) hr hy]
    congr 2
    rw [Nat.add_mul]
    omega
theorem rblock_ok (l : List Room) (A : Option Addr) (c : Nat) (a : Int) (s : Spn) (w : World) (hs : SlRoom w A l) (hT : Tame l)
    (h1 : roomsOk l = true) (h2 : inB a 1 1000000 = true) (h3 : perOk s = true) (k : Nat) (hk : k < l.length) (hix : idxR l a = k) :
    Calls Try.prog 18 #[.slice A l.length c, .int .i64 a, s.v] w fun e w' => BlockE l a s e w' ∧ Below w.heap.size w w' := by
  have HBE : Hid (∀ u A' c' w', IsComb fU l[k].blk [s] u → u.length ≤ 2 * (l[k].blk.length + 1) → SlRoom w' A' (l.set k (l[k].with_ u)) → l.length ≤ c' → BlockE l a s (.returned (.tuple #[.slice A' l.length c', .int .i64 0])) w') := Lib.hid (fun u A' c' w' e1 e2 e3 e4 => by
    refine ⟨l.set k (l[k].with_ u), A', c', 0, by rw [List.length_set], e3, ?_, by rw [List.length_set]; exact e4⟩
    unfold BlockR
    rw [if_pos (by rw [h1, h2, h3]; rfl)]
    exact .inr ⟨k, hk, u, hix, e1, e2, rfl, rfl⟩)
  have hl4 := (roomsOk_iff.1 h1).1
  have hokk := (roomsOk_iff.1 h1).2.1 _ (List.getElem_mem hk)
  have hset := (Room.ok_iff.1 hokk).2.1
  have hsok : s.ok = true := Spn.ok_iff.2 (by have := perOk_iff.1 h3; omega)
  have hsv : setOk [s] = true := by rw [setOk_one]; exact hsok
  have hbk := hT.at_ hk
  have HH := Lib.hid (And.intro hokk (And.intro hset (And.intro hsok hsv)))
  have HT := Lib.hid hT
  clear hokk hset hsok hsv hT
  obtain ⟨L, hLl, hLs, hLp⟩ := hs.toA
  have hLn : L.length = l.length := by rw [← hLl, List.length_map]
  have HL := Lib.hid (And.intro hLl (And.intro hLs hLp))
  have HLN := Lib.hid hLn
  clear hLl hLs hLp hLn
  have hx1 : (k : Int) < (l.length : Int) := by omega
  have hx4 : (0 : Int) ≤ (k : Int) := by omega
  have hx5 : ¬ ((k : Int) < 0) := by omega
  have hx6 : decide ((k : Int) < 0) = false := by simp
  go_enter Try.func18, Try.ntmps18
  go_wp2_with fail
  refine (rrvalid_any l A c _ (hs.up (by repeat' (first | (with_reducible exact Below.refl _ _) | (with_reducible assumption) | (with_reducible refine below_drewN ?_ _) | (with_reducible refine Below.drew ?_) | (with_reducible refine below_regrown_up _ _ ?_ ?_) | (with_reducible refine Below.alloc ?_ ?_ _) | (with_reducible refine Below.setCell ?_ ?_ _) | (with_reducible refine below_up ?_ ?_ (by assumption)) | (with_reducible exact Nat.le_refl _) | omega | (simp; done) | (simp; omega)))) (by omega) HT.out).mono ?_
  rintro e w1 ⟨rfl, hb1⟩; have hz1 := hb1.size; (try simp only [World.size_alloc, World.size_setCell, World.size_drew, size_drewN', size_grow, size_redrawn] at hz1); obtain ⟨hc1, hf1⟩ := bcellB (B := w.heap.size + 1) hb1 (by first | omega | (simp only [World.size_alloc, World.size_setCell, World.size_drew, size_drewN', size_grow, size_redrawn]; omega))
  rw [h1]
  have HB1 : Below w.heap.size w w1 := (by repeat' (first | (with_reducible exact Below.refl _ _) | (with_reducible assumption) | (with_reducible refine below_drewN ?_ _) | (with_reducible refine Below.drew ?_) | (with_reducible refine below_regrown_up _ _ ?_ ?_) | (with_reducible refine Below.alloc ?_ ?_ _) | (with_reducible refine Below.setCell ?_ ?_ _) | (with_reducible refine below_up ?_ ?_ (by assumption)) | (with_reducible exact Nat.le_refl _) | omega | (simp; done) | (simp; omega)))
  go_wp2_with fail
  refine (r16_in_any _ _ _ _).mono ?_
  rintro e w2 ⟨rfl, rfl⟩
  rw [h2]
  go_wp2_with fail
  refine (rperiod_any s _).mono ?_
  rintro e w3 ⟨rfl, hb3⟩; have hz3 := hb3.size; (try simp only [World.size_alloc, World.size_setCell, World.size_drew, size_drewN', size_grow, size_redrawn] at hz3); obtain ⟨hc3, hf3⟩ := bcellB (B := w.heap.size + 1) hb3 (by first | omega | (simp only [World.size_alloc, World.size_setCell, World.size_drew, size_drewN', size_grow, size_redrawn]; omega))
  rw [h3]
  have HB3 : Below w.heap.size w w3 := below_up HB1 (by omega) hb3
  go_wp2_with fail
  refine (rindex_any l A c a _ (hs.up HB3) (by omega)).mono ?_
  rintro e w4 ⟨rfl, hb4⟩; have hz4 := hb4.size; (try simp only [World.size_alloc, World.size_setCell, World.size_drew, size_drewN', size_grow, size_redrawn] at hz4); obtain ⟨hc4, hf4⟩ := bcellB (B := w.heap.size + 1) hb4 (by first | omega | (simp only [World.size_alloc, World.size_setCell, World.size_drew, size_drewN', size_grow, size_redrawn]; omega))
  rw [hix]
  have HB4 : Below w.heap.size w w4 := below_up HB3 (by omega) hb4
  have x0 : w4.cell? ⟨w.heap.size, 0, none⟩ = some (.int .i64 s.frm) := by rw [hc4 _ _ (by omega), hc3 _ _ (by omega), hc1 _ _ (by omega)]; go_simp
  have x1 : w4.cell? ⟨w.heap.size, 1, none⟩ = some (.int .i64 s.til) := by rw [hc4 _ _ (by omega), hc3 _ _ (by omega), hc1 _ _ (by omega)]; go_simp
  have xl : w.heap.size < w4.heap.size := by omega
  have hs4 := hs.up HB4
  have hsl4 : Sl w4 w4.heap.size 6 encA A L := HL.out.2.1.up HB4
  clear hc1 hc3 hc4 hf1 hf3 hf4 hb1 hb3 hb4
  go_wp2_with (at_builtin; go_loud (refine wpList_append_all _ rfl (.tmp 32) (.tmp 33) 22 25 rfl w4.heap.size 6 64 encA elemRoom encA_len encA_one _ [] rfl OwnL.nil_ A c _ L (by rw [HLN.out]; rfl) hsl4 (by rw [HLN.out]; simp; omega) (by first | omega | (simp; done) | (simp; omega)) (Nat.le_refl _) ?_); intro v5 w5 hown5 hgrow5 hat5; rw [List.nil_append] at hown5; have hb5 := below_push (B := w4.heap.size) (e := 25) (size := 6) (enc := encA) (L := []) (Below.refl _ _) OwnL.nil_ hgrow5 (Nat.le_refl _); clear hat5)
  have HB5 : Below w.heap.size w w5 := below_up HB4 HB4.size hb5
  obtain ⟨g, cap, rfl, hgb, hgl, hle, hsl5, hfz⟩ := own_open encA_len hown5 (by rw [HLN.out]; omega)
  rw [HLN.out] at hle ⊢
  obtain ⟨b, off, A', c', hAe, hbl, hcell, hsp⟩ := (hs.up HB5).at_ hk
  subst hAe
  have q5 := hcell 5 _ rfl
  clear hcell
  have y0 : w5.cell? ⟨w.heap.size, 0, none⟩ = some (.int .i64 s.frm) := (hb5.cell (p := ⟨w.heap.size, 0, none⟩) xl).trans x0
  have y1 : w5.cell? ⟨w.heap.size, 1, none⟩ = some (.int .i64 s.til) := (hb5.cell (p := ⟨w.heap.size, 1, none⟩) xl).trans x1
  have yl : w.heap.size < w5.heap.size := by have := hb5.size; omega
  have hg5 := hsl5.cells (show k < L.length by rw [HLN.out]; exact hk)
  have gl : ∃ a1 n1 c1, w5.cell? ⟨g, k * 6 + 5, none⟩ = some (.slice a1 n1 c1) := by
    have := hg5.2 5 _ rfl
    rw [Nat.zero_add] at this
    exact ⟨_, _, _, this⟩
  obtain ⟨a1, n1, c1, gl⟩ := gl
  have gf := hfz (k * 6 + 5)
  have HG := Lib.hid hfz
  clear hfz hg5 x0 x1 hs4 hsl4 hgrow5
  go_region_law (go_simp; go_at_call 36; refine (runion_any l[k].blk [s] A' (some ⟨w5.heap.size, 0, none⟩) c' 1 _ (hsp.up ((Below.refl _ _).drew.alloc (Nat.le_refl _) _)) (oneSpn s w5.drew _ rfl) (by omega) (by simp) (fun _ _ => by simp; omega)).mono ?_; rintro e w6 ⟨hC, hb6⟩; unfold CombR at hC; rw [HH.out.2.1, HH.out.2.2.2, if_pos (by rfl)] at hC; obtain ⟨u, A6, c6, rfl, hs6, hcb, hlu⟩ := hC; have hb56 : Below w5.heap.size w5 w6 := below_up ((Below.refl _ _).drew.alloc (Nat.le_refl _) _) (by simp) hb6)
  all_goals
    have gl6 : w6.cell? ⟨g, k * 6 + 5, none⟩ = some (.slice a1 n1 c1) := (hb56.cell (p := ⟨g, k * 6 + 5, none⟩) hgl).trans gl
    have gf6 : w6.frozen? ⟨g, k * 6 + 5, none⟩ = false := (hb56.frozen (p := ⟨g, k * 6 + 5, none⟩) hgl).trans gf
    have hown6 := hown5.below hb56
    have hgl6 : g < w6.heap.size := by have := hb56.size; omega
    have HYY : Hid (SlRoom (w6.setCell ⟨g, k * 6 + 5, none⟩ (.slice A6 u.length c6)) (some ⟨g, 0, none⟩) (l.set k (l[k].with_ u)) ∧ Below w.heap.size w (w6.setCell ⟨g, k * 6 + 5, none⟩ (.slice A6 u.length c6))) := Lib.hid (by
      have hk' : k < L.length := by rw [HLN.out]; exact hk
      have hy : L[k].1 = l[k] := by
        have := HL.out.1
        subst this
        rw [List.getElem_map]
      refine ⟨?_, ?_⟩
      · have hz : (L.set k ((l[k].with_ u, A6, c6) : RoomA)).map (·.1) = l.set k (l[k].with_ u) := by rw [List.map_set, HL.out.1]
        rw [← hz]
        have ho := own_set (v := .slice A6 u.length c6) (i := k * 6 + 5) (L' := L.set k ((l[k].with_ u, A6, c6) : RoomA)) encA_len hown6 (by rw [HLN.out]; omega) (by omega) (by simp) (flat_set1 encA_len L hk' (by omega) (by rw [← hy]; rfl))
        obtain ⟨A7, c7, e7, _, _, hs7⟩ := ho.sl encA_len
        injection e7 with e7
        rw [← e7] at hs7
        refine SlRoom.ofA hs7 fun x hx => ?_
        rcases List.mem_or_eq_of_mem_set hx with hx | rfl
        · exact SlSpn.setSl (((HL.out.2.2 x hx).up HB5).up hb56) gl6
        · exact SlSpn.setSl hs6 gl6
      · exact (below_up HB5 HB5.size hb56).setCell (by have := HB4.size; show w.heap.size ≤ g; omega) _)
    clear hown5 hown6 hs6 hsl5
    go_wp2_with fail
    go_ret2
    exact ⟨HBE.out u (some ⟨g, 0, none⟩) cap _ hcb (by simpa using hlu) HYY.out.1 hle, HYY.out.2⟩
theorem rblock_any (l : List Room) (A : Option Addr) (c : Nat) (a : Int) (s : Spn) (w : World) (hs : SlRoom w A l) (hT : Tame l) (hl : l.length ≤ 140737488355328) :
    Calls Try.prog 18 #[.slice A l.length c, .int .i64 a, s.v] w fun e w' => BlockE l a s e w' ∧ Below w.heap.size w w' := by
  cases hv : roomsOk l
  · have HB := Lib.hid (fun w' => blockE_arg (l := l) (a := a) (s := s) (w' := w') (by rw [hv]; rfl))
    go_enter Try.func18, Try.ntmps18
    go_wp2_with fail
    refine (rrvalid_any l A c _ (hs.up (by repeat' (first | (with_reducible exact Below.refl _ _) | (with_reducible assumption) | (with_reducible refine below_drewN ?_ _) | (with_reducible refine Below.drew ?_) | (with_reducible refine below_regrown_up _ _ ?_ ?_) | (with_reducible refine Below.alloc ?_ ?_ _) | (with_reducible refine Below.setCell ?_ ?_ _) | (with_reducible refine below_up ?_ ?_ (by assumption)) | (with_reducible exact Nat.le_refl _) | omega | (simp; done) | (simp; omega)))) hl hT).mono ?_
    rintro e w1 ⟨rfl, hb1⟩; have hz1 := hb1.size; (try simp only [World.size_alloc, World.size_setCell, World.size_drew, size_drewN', size_grow, size_redrawn] at hz1); obtain ⟨hc1, hf1⟩ := bcellB (B := w.heap.size + 1) hb1 (by first | omega | (simp only [World.size_alloc, World.size_setCell, World.size_drew, size_drewN', size_grow, size_redrawn]; omega))
    rw [hv]
    go_wp2_with fail
    go_ret2
    refine ⟨HB.out w1, ?_⟩
    repeat' (first
      | (with_reducible exact Below.refl _ _)
      | (with_reducible assumption)
      | (with_reducible refine below_drewN ?_ _)
      | (with_reducible refine Below.drew ?_)
      | (with_reducible refine below_regrown_up _ _ ?_ ?_)
      | (with_reducible refine Below.alloc ?_ ?_ _)
      | (with_reducible refine Below.setCell ?_ ?_ _)
      | (with_reducible refine below_up ?_ ?_ (by assumption))
      | (with_reducible exact Nat.le_refl _)
      | omega
      | (simp; done)
      | (simp; omega))
  cases hi : inB a 1 1000000
  · have HB := Lib.hid (fun w' => blockE_arg (l := l) (a := a) (s := s) (w' := w') (by rw [hv, hi]; rfl))
    go_enter Try.func18, Try.ntmps18
    go_wp2_with fail
    refine (rrvalid_any l A c _ (hs.up (by repeat' (first | (with_reducible exact Below.refl _ _) | (with_reducible assumption) | (with_reducible refine below_drewN ?_ _) | (with_reducible refine Below.drew ?_) | (with_reducible refine below_regrown_up _ _ ?_ ?_) | (with_reducible refine Below.alloc ?_ ?_ _) | (with_reducible refine Below.setCell ?_ ?_ _) | (with_reducible refine below_up ?_ ?_ (by assumption)) | (with_reducible exact Nat.le_refl _) | omega | (simp; done) | (simp; omega)))) hl hT).mono ?_
    rintro e w1 ⟨rfl, hb1⟩; have hz1 := hb1.size; (try simp only [World.size_alloc, World.size_setCell, World.size_drew, size_drewN', size_grow, size_redrawn] at hz1); obtain ⟨hc1, hf1⟩ := bcellB (B := w.heap.size + 1) hb1 (by first | omega | (simp only [World.size_alloc, World.size_setCell, World.size_drew, size_drewN', size_grow, size_redrawn]; omega))
    rw [hv]
    go_wp2_with fail
    refine (r16_in_any _ _ _ _).mono ?_
    rintro e w2 ⟨rfl, rfl⟩
    rw [hi]
    go_wp2_with fail
    go_ret2
    refine ⟨HB.out w1, ?_⟩
    repeat' (first
      | (with_reducible exact Below.refl _ _)
      | (with_reducible assumption)
      | (with_reducible refine below_drewN ?_ _)
      | (with_reducible refine Below.drew ?_)
      | (with_reducible refine below_regrown_up _ _ ?_ ?_)
      | (with_reducible refine Below.alloc ?_ ?_ _)
      | (with_reducible refine Below.setCell ?_ ?_ _)
      | (with_reducible refine below_up ?_ ?_ (by assumption))
      | (with_reducible exact Nat.le_refl _)
      | omega
      | (simp; done)
      | (simp; omega))
  cases hp : perOk s
  · have HB := Lib.hid (fun w' => blockE_arg (l := l) (a := a) (s := s) (w' := w') (by rw [hv, hi, hp]; rfl))
    go_enter Try.func18, Try.ntmps18
    go_wp2_with fail
    refine (rrvalid_any l A c _ (hs.up (by repeat' (first | (with_reducible exact Below.refl _ _) | (with_reducible assumption) | (with_reducible refine below_drewN ?_ _) | (with_reducible refine Below.drew ?_) | (with_reducible refine below_regrown_up _ _ ?_ ?_) | (with_reducible refine Below.alloc ?_ ?_ _) | (with_reducible refine Below.setCell ?_ ?_ _) | (with_reducible refine below_up ?_ ?_ (by assumption)) | (with_reducible exact Nat.le_refl _) | omega | (simp; done) | (simp; omega)))) hl hT).mono ?_
    rintro e w1 ⟨rfl, hb1⟩; have hz1 := hb1.size; (try simp only [World.size_alloc, World.size_setCell, World.size_drew, size_drewN', size_grow, size_redrawn] at hz1); obtain ⟨hc1, hf1⟩ := bcellB (B := w.heap.size + 1) hb1 (by first | omega | (simp only [World.size_alloc, World.size_setCell, World.size_drew, size_drewN', size_grow, size_redrawn]; omega))
    rw [hv]
    go_wp2_with fail
    refine (r16_in_any _ _ _ _).mono ?_
    rintro e w2 ⟨rfl, rfl⟩
    rw [hi]
    go_wp2_with fail
    refine (rperiod_any s _).mono ?_
    rintro e w3 ⟨rfl, hb3⟩; have hz3 := hb3.size; (try simp only [World.size_alloc, World.size_setCell, World.size_drew, size_drewN', size_grow, size_redrawn] at hz3); obtain ⟨hc3, hf3⟩ := bcellB (B := w.heap.size + 1) hb3 (by first | omega | (simp only [World.size_alloc, World.size_setCell, World.size_drew, size_drewN', size_grow, size_redrawn]; omega))
    rw [hp]
    go_wp2_with fail
    go_ret2
    refine ⟨HB.out w3, ?_⟩
    repeat' (first
      | (with_reducible exact Below.refl _ _)
      | (with_reducible assumption)
      | (with_reducible refine below_drewN ?_ _)
      | (with_reducible refine Below.drew ?_)
      | (with_reducible refine below_regrown_up _ _ ?_ ?_)
      | (with_reducible refine Below.alloc ?_ ?_ _)
      | (with_reducible refine Below.setCell ?_ ?_ _)
      | (with_reducible refine below_up ?_ ?_ (by assumption))
      | (with_reducible exact Nat.le_refl _)
      | omega
      | (simp; done)
      | (simp; omega))
  rcases idxR_cases l a with ⟨hx, _⟩ | ⟨k, hk, hx, _⟩
  · have HB := Lib.hid (fun w' => blockE_none (l := l) (a := a) (s := s) (w' := w') (by rw [hv, hi, hp]; rfl) (by omega))
    go_enter Try.func18, Try.ntmps18
    go_wp2_with fail
    refine (rrvalid_any l A c _ (hs.up (by repeat' (first | (with_reducible exact Below.refl _ _) | (with_reducible assumption) | (with_reducible refine below_drewN ?_ _) | (with_reducible refine Below.drew ?_) | (with_reducible refine below_regrown_up _ _ ?_ ?_) | (with_reducible refine Below.alloc ?_ ?_ _) | (with_reducible refine Below.setCell ?_ ?_ _) | (with_reducible refine below_up ?_ ?_ (by assumption)) | (with_reducible exact Nat.le_refl _) | omega | (simp; done) | (simp; omega)))) hl hT).mono ?_
    rintro e w1 ⟨rfl, hb1⟩; have hz1 := hb1.size; (try simp only [World.size_alloc, World.size_setCell, World.size_drew, size_drewN', size_grow, size_redrawn] at hz1); obtain ⟨hc1, hf1⟩ := bcellB (B := w.heap.size + 1) hb1 (by first | omega | (simp only [World.size_alloc, World.size_setCell, World.size_drew, size_drewN', size_grow, size_redrawn]; omega))
    rw [hv]
    have HB1 : Below w.heap.size w w1 := (by repeat' (first | (with_reducible exact Below.refl _ _) | (with_reducible assumption) | (with_reducible refine below_drewN ?_ _) | (with_reducible refine Below.drew ?_) | (with_reducible refine below_regrown_up _ _ ?_ ?_) | (with_reducible refine Below.alloc ?_ ?_ _) | (with_reducible refine Below.setCell ?_ ?_ _) | (with_reducible refine below_up ?_ ?_ (by assumption)) | (with_reducible exact Nat.le_refl _) | omega | (simp; done) | (simp; omega)))
    go_wp2_with fail
    refine (r16_in_any _ _ _ _).mono ?_
    rintro e w2 ⟨rfl, rfl⟩
    rw [hi]
    go_wp2_with fail
    refine (rperiod_any s _).mono ?_
    rintro e w3 ⟨rfl, hb3⟩; have hz3 := hb3.size; (try simp only [World.size_alloc, World.size_setCell, World.size_drew, size_drewN', size_grow, size_redrawn] at hz3); obtain ⟨hc3, hf3⟩ := bcellB (B := w.heap.size + 1) hb3 (by first | omega | (simp only [World.size_alloc, World.size_setCell, World.size_drew, size_drewN', size_grow, size_redrawn]; omega))
    rw [hp]
    have HB3 : Below w.heap.size w w3 := below_up HB1 (by omega) hb3
    go_wp2_with fail
    refine (rindex_any l A c a _ (hs.up HB3) hl).mono ?_
    rintro e w4 ⟨rfl, hb4⟩; have hz4 := hb4.size; (try simp only [World.size_alloc, World.size_setCell, World.size_drew, size_drewN', size_grow, size_redrawn] at hz4); obtain ⟨hc4, hf4⟩ := bcellB (B := w.heap.size + 1) hb4 (by first | omega | (simp only [World.size_alloc, World.size_setCell, World.size_drew, size_drewN', size_grow, size_redrawn]; omega))
    rw [hx]
    go_wp2_with fail
    go_ret2
    exact ⟨HB.out w4, below_up HB3 (by omega) hb4⟩
  · exact rblock_ok l A c a s w hs hT hv hi hp k hk hx
end Go.Proofs.Ytphapnooonjnmaa
