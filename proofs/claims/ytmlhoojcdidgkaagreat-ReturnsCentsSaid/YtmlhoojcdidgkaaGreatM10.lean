/-
  Texts, one behind the other: Led8, Del, Led9, Led10.
-/
import Derived.Test.YtmlhoojcdidgkaaGreatM09
import Derived.Lib.SliceRun
/-
  Contracts of package ledger: balances.
-/
namespace Go.Proofs.YtmlhoojcdidgkaaGreat
set_option linter.unusedSimpArgs false
set_option linter.unusedVariables false
open Go.RowKit Go.Maps
open Go.Sort (grow size_grow)

set_option maxHeartbeats 4000000
set_option maxRecDepth 100000

theorem upto_takeWhile {day : Int} : ∀ {l : List Entry}, Rises l → upto l day = l.takeWhile (fun e => decide (e.day ≤ day))
  | [], _ => rfl
  | x :: l, h => by
    obtain ⟨h1, h2⟩ := List.pairwise_cons.1 h
    unfold upto
    by_cases hx : x.day ≤ day
    · rw [List.filter_cons, if_pos (by simpa using hx), List.takeWhile_cons, if_pos (by simpa using hx)]
      congr 1
      exact upto_takeWhile h2
    · rw [List.filter_cons, if_neg (by simpa using hx), List.takeWhile_cons, if_neg (by simpa using hx), List.filter_eq_nil_iff]
      intro y hy
      have := h1 y hy
      simp
      omega
theorem eok_upto {L : List EOk} {l : List Entry} (hL : L.map (·.1) = l) (h : Rises l) (day : Int) : (L.takeWhile (fun e => decide (e.1.day ≤ day))).map (·.1) = upto l day := by
  subst hL
  rw [upto_takeWhile h, List.takeWhile_map]
  rfl
theorem size_owns {w : World} {P : Program} {k : TypeId} {R : Value → Option (DM × List MemPlace)} {b n : Nat} {D : DM} (h : w.ownsMap P k R b n D) : Maps.size D ≤ n := by
  obtain ⟨es, clock, hb, hf, hn, rfl⟩ := h
  show (List.foldr DataW.insert [] _).length ≤ n
  rw [length_sorted, List.length_map, Array.length_toList]
  exact hn

theorem lbalance_any (l : List Entry) (A : Option Addr) (c : Nat) (a day : Int) (w : World) (hs : SlEnt w A l) (hl : l.length ≤ 140737488355328) :
    Calls Tryz.prog 20 #[.slice A l.length c, .int .i64 a, .int .i64 day] w fun e w' => e = .returned (.tuple #[.int .i64 (balR l a day).1, .int .i64 (balR l a day).2]) ∧ Below w.heap.size w w' := by
  rcases balR_cases l a day with ⟨h1, hr⟩ | ⟨h1, h2, h3, hr⟩
  · cases g1 : ledOk l <;> cases g2 : inB a 100 999 <;> cases g3 : inB day 0 366
    case true.true.true => rw [g1, g2, g3] at h1; simp at h1
    all_goals
      rw [hr]
      clear h1 hr
      go_enter Tryz.func20, Tryz.ntmps20
      go_wp2_with (first | (go_at_call 35; refine (lvalid_any l A c _ hs hl).mono ?_; rintro e w1 ⟨rfl, hb1⟩; have hz1 := hb1.size; (try simp only [World.size_alloc, World.size_setCell, World.size_drew, size_drewN', size_grow, size_redrawn] at hz1); obtain ⟨hc1, hf1⟩ := bcellB (B := w.heap.size) hb1 (by first | omega | (simp only [World.size_alloc, World.size_setCell, World.size_drew, size_drewN', size_grow, size_redrawn]; omega))); rw [g1] | (go_at_call 48; refine (isAccount_any _ _).mono ?_; rintro e w2 ⟨rfl, rfl⟩) | (go_at_call 49; refine (isDay_any _ _).mono ?_; rintro e w2 ⟨rfl, rfl⟩))
      go_ret2
      exact ⟨rfl, hb1⟩
  · rw [hr]
    clear hr
    obtain ⟨h5, hall, hri⟩ := ledOk_iff.1 h1
    obtain ⟨L, hL⟩ := eok_of hall
    have hupto := eok_upto hL hri day
    have hlen : l.length = L.length := by rw [← hL, List.length_map]
    have HLEN := Lib.hid hlen
    have HL := Lib.hid hL
    have HU := Lib.hid hupto
    have ha := inB_iff.1 h2
    obtain ⟨a1, a2⟩ := ha
    have HR := Lib.hid (show bal (fun x => x == a) l day = mvs (fun x => x == a) (upto l day) from rfl)
    clear hall hri hL hlen hupto
    go_enter Tryz.func20, Tryz.ntmps20
    go_wp2_with (first
      | (go_at_call 35; refine (lvalid_any l A c _ hs hl).mono ?_; rintro e w1 ⟨rfl, hb1⟩; have hz1 := hb1.size; (try simp only [World.size_alloc, World.size_setCell, World.size_drew, size_drewN', size_grow, size_redrawn] at hz1); obtain ⟨hc1, hf1⟩ := bcellB (B := w.heap.size) hb1 (by first | omega | (simp only [World.size_alloc, World.size_setCell, World.size_drew, size_drewN', size_grow, size_redrawn]; omega))); rw [h1]
      | (go_at_call 48; refine (isAccount_any _ _).mono ?_; rintro e w2 ⟨rfl, rfl⟩)
      | (go_at_call 49; refine (isDay_any _ _).mono ?_; rintro e w2 ⟨rfl, rfl⟩)
      | (go_at_call 50; have hc := sums_any L A c day w1 (by rw [HL.out]; exact hs.up hb1) (by rw [← HLEN.out]; exact h5); rw [← HLEN.out, HU.out] at hc; refine hc.mono ?_; clear hc; rintro e w4 ⟨⟨b, N, D, rfl, hown, hN, hS⟩, hb4⟩; have HS := Lib.hid hS; clear hS)
      | (at_lookup; refine wpList_lookup_own_int _ rfl _ _ 76 rfl 3 3 .i64 keyedI Tryz.underlying76 Tryz.underlying3 (zero_int _) b N D rfl hown _ _ rfl (keyOf_int_mk Tryz.underlying3 (WalkArith.wf_i64 (by omega))) ?_; intro c1 hat1 hwc1; have HG1 := Lib.hid (getI_of hat1); clear hat1 hwc1))
    go_ret2
    refine ⟨?_, below_up hb1 hz1 hb4⟩
    rw [HR.out, ← HS.out.at_, HG1.out]
    rfl

theorem mvs_congr {p q : Int → Bool} {es : List Entry} (h : ∀ e ∈ es, e.ok = true) (hpq : ∀ a, 100 ≤ a → a ≤ 999 → p a = q a) : mvs p es = mvs q es := by
  unfold mvs
  congr 1
  refine List.map_congr_left (fun e he => ?_)
  obtain ⟨_, h1, h2, _⟩ := Entry.ok_iff.1 (h e he)
  unfold mv
  rw [hpq _ h1.1 h1.2, hpq _ h2.1 h2.2]
def kq (k : Int) (a : Int) : Bool := a / 100 == k
theorem kq_ofKind {k a : Int} (h1 : 100 ≤ a) (h2 : a ≤ 999) : kq k a = ofKind k a := by
  unfold kq ofKind
  rw [Bool.eq_iff_iff, beq_iff_eq, inB_iff]
  omega
end Go.Proofs.YtmlhoojcdidgkaaGreat

/-
  A row of the call's own, written in its middle; slices.Delete at one entry.
-/
namespace Go.Proofs.YtmlhoojcdidgkaaGreat
set_option linter.unusedSimpArgs false
set_option linter.unusedVariables false
open Go.RowKit
open Go.Sort (grow size_grow)

set_option maxHeartbeats 4000000
set_option maxRecDepth 100000

def over : Array Value → Nat → List Value → Array Value
  | cur, _, [] => cur
  | cur, o, v :: r => over (cur.setIfInBounds o v) (o + 1) r
theorem over_size : ∀ (vs : List Value) (cur : Array Value) (o : Nat), (over cur o vs).size = cur.size
  | [], _, _ => rfl
  | v :: r, cur, o => by rw [over, over_size r]; simp
theorem over_toList : ∀ (vs : List Value) (cur : Array Value) (o : Nat), o + vs.length ≤ cur.size → (over cur o vs).toList = cur.toList.take o ++ vs ++ cur.toList.drop (o + vs.length)
  | [], cur, o, _ => by simp [over]
  | v :: r, cur, o, h => by
    rw [List.length_cons] at h
    have ho : o < cur.toList.length := by rw [Array.length_toList]; omega
    rw [over, over_toList r _ _ (by simp; omega), Array.toList_setIfInBounds]
    have e1 : (cur.toList.set o v).take (o + 1) = cur.toList.take o ++ [v] := by
      rw [List.take_succ_eq_append_getElem (by simpa using ho), List.getElem_set_self, List.take_set, List.set_eq_of_length_le (by rw [List.length_take]; omega)]
    have e2 : (cur.toList.set o v).drop (o + 1 + r.length) = cur.toList.drop (o + (v :: r).length) := by
      rw [List.drop_set, if_pos (by omega), List.length_cons]
      congr 1
      omega
    rw [e1, e2]
    simp
theorem heap_setCells_same (g : Nat) (t : TypeId) : ∀ (vs : List Value) (o : Nat) (w : World) (cs : Array Value), w.heap[g]? = some (.cells cs t (0, 0)) → (w.setCells g o vs).heap[g]? = some (.cells (over cs o vs) t (0, 0))
  | [], _, _, _, h => h
  | v :: r, o, w, cs, h => heap_setCells_same g t r (o + 1) _ _ (heap_setCell_same w g o cs t v h)
theorem size_setCells' (b : Nat) : ∀ (vs : List Value) (o : Nat) (w : World), (w.setCells b o vs).heap.size = w.heap.size
  | [], _, _ => rfl
  | v :: r, o, w => by rw [World.setCells, size_setCells' b r]; simp
theorem grownBy_setCells (g : Nat) : ∀ (vs : List Value) (o : Nat) (w : World), w.grownBy (w.setCells g o vs) (some g)
  | [], _, w => World.grownBy.refl w _
  | v :: r, o, w => (grownBy_setCell' w g v o).trans (grownBy_setCells g r (o + 1) _)
where
  grownBy_setCell' (w : World) (g : Nat) (v : Value) (o : Nat) : w.grownBy (w.setCell ⟨g, o, none⟩ v) (some g) :=
    ⟨rfl, rfl, rfl, by simp, fun k _ hk => Below.heap_setCell w ⟨g, o, none⟩ v k (fun e => hk (by rw [e]))⟩
section
variable {α : Type} {w : World} {base size g cap n : Nat} {e : TypeId} {enc : α → List Value} {L : List α}
theorem own_parts (h : OwnL w base e size enc (.slice (some ⟨g, 0, none⟩) n cap) L) (hn : 0 < n) : n = L.length ∧ base ≤ g ∧ n ≤ cap ∧ cap ≤ maxLen ∧ ∃ cur, w.heap[g]? = some (.cells cur e (0, 0)) ∧ cur.size = cap * size ∧ cur.toList.take (L.length * size) = L.flatMap enc := by
  rcases h.2 with ⟨h1, h0⟩ | ⟨g', cap', cur, h1, hb, hg, h2, h3, h4, h5⟩
  · injection h1 with h1 h2
    cases h1
  · injection h1 with h1 h6 h7
    injection h1 with h1
    injection h1 with h1
    subst h1 h6 h7
    exact ⟨rfl, hb, h2, h3, cur, hg, h4, h5⟩
/-- The cells from the end of A on are turned into those of B: what was A and whatever is A and B. -/
theorem own_turn (he : ∀ x, (enc x).length = size) (h : OwnL w base e size enc (.slice (some ⟨g, 0, none⟩) n cap) L) (hn : 0 < n) {A B : List α} (hA : A <+: L) (hB : (A ++ B).length ≤ cap) :
    OwnL (w.setCells g (A.length * size) (B.flatMap enc)) base e size enc (.slice (some ⟨g, 0, none⟩) (A ++ B).length cap) (A ++ B) := by
  obtain ⟨h0, hb, h2, h3, cur, hg, h4, h5⟩ := own_parts h hn
  obtain ⟨C, hC⟩ := hA
  have hcells := heap_setCells_same g e (B.flatMap enc) (A.length * size) w cur hg
  have hfit : A.length * size + (B.flatMap enc).length ≤ cur.size := by
    rw [flat_len he, h4, ← Nat.add_mul, ← List.length_append]
    exact Nat.mul_le_mul_right _ hB
  refine ⟨flat_len he _, .inr ⟨g, cap, _, rfl, hb, hcells, hB, h3, by rw [over_size, h4], ?_⟩⟩
  rw [over_toList _ _ _ hfit]
  have hA' : cur.toList.take (A.length * size) = A.flatMap enc := by
    have h6 : A.length ≤ L.length := by rw [← hC, List.length_append]; omega
    have h7 := congrArg (List.take (A.length * size)) h5
    rw [List.take_take, Nat.min_eq_left (Nat.mul_le_mul_right _ h6), ← hC, List.flatMap_append, List.take_left' (by rw [flat_len he])] at h7
    exact h7
  rw [hA', ← List.flatMap_append, List.take_left' (by rw [flat_len he])]
/-- What lies behind the row's end may be turned at will. -/
theorem own_above (he : ∀ x, (enc x).length = size) (h : OwnL w base e size enc (.slice (some ⟨g, 0, none⟩) n cap) L) {vs : List Value} {o : Nat} (ho : L.length * size ≤ o) (hfit : o + vs.length ≤ cap * size) (hg0 : g < w.heap.size) :
    OwnL (w.setCells g o vs) base e size enc (.slice (some ⟨g, 0, none⟩) n cap) L := by
  rcases h.2 with ⟨h1, h0⟩ | ⟨g', cap', cur, h1, hb, hg, h2, h3, h4, h5⟩
  · injection h1 with h1 h2
    cases h1
  · injection h1 with h1 h6 h7
    injection h1 with h1
    injection h1 with h1
    subst h1 h6 h7
    refine ⟨flat_len he _, .inr ⟨g, cap, _, rfl, hb, heap_setCells_same g e vs o w cur hg, h2, h3, by rw [over_size, h4], ?_⟩⟩
    have hlen : L.length * size ≤ (cur.toList.take o).length := by
      have h6 := Nat.mul_le_mul_right size h2
      rw [List.length_take, show cur.toList.length = cur.size from Array.length_toList, h4]
      omega
    rw [over_toList _ _ _ (by rw [h4]; exact hfit), List.append_assoc, List.take_append_of_le_length hlen, List.take_take, Nat.min_eq_left ho]
    exact h5
end
theorem run_clear_one {P : Program} (w : World) (t e ty : TypeId) (z : Value) (ht : P.underlying t = some (.slice e)) (hv : ∀ w, (zeroValue e).run P w = .ok z w) (h1 : ∀ u ∈ z.cells.toList, u.oneCell' = true) (b o c : Nat)
    (hc : ∀ j, j < z.cells.size → (w.cell? ⟨b, o + j, none⟩).isSome = true) (hf : ∀ j, j < z.cells.size → w.frozen? ⟨b, o + j, none⟩ = false) :
    (Builtin.clear_ #[t] ty #[.slice (some ⟨b, o, none⟩) 1 c]).run P w = .ok (.tuple #[]) (w.setCells b o z.cells.toList) := by
  have hzc : (Builtin.zeroCells z.cells 1).toList = z.cells.toList := by
    simp only [Builtin.zeroCells, Nat.one_mul]
    apply List.ext_getElem
    · simp
    · intro i g1 g2
      have : i < z.cells.size := by simpa using g2
      simp [Nat.mod_eq_of_lt this, this]
  have hst := run_storeCells_cells (P := P) b o z.cells.toList 0 w (by simpa using hc) (by simpa using hf) h1
  simp only [Nat.add_zero] at hst
  simp [Builtin.clear_, run_underlying ht, hv, hzc, hst]

def zE : Value := .agg #[.int .i64 0, .int .i64 0, .int .i64 0, .int .i64 0, .int .i64 0]
theorem zero_ent (w : World) : (zeroValue 60).run Tryz.prog w = .ok zE w := by kernel_rfl
theorem own_cell {w : World} {base g n cap : Nat} {L : List Entry} (h : OwnE w base (.slice (some ⟨g, 0, none⟩) n cap) L) (hn : 0 < n) {j : Nat} (hj : j < cap * 5) : (w.cell? ⟨g, j, none⟩).isSome = true ∧ w.frozen? ⟨g, j, none⟩ = false := by
  obtain ⟨_, _, _, _, cur, hg, h4, _⟩ := own_parts h hn
  constructor
  · rw [cell_of_row w g j cur _ _ hg, Array.getElem?_eq_getElem (by omega)]
    rfl
  · unfold World.frozen?
    simp [hg]
theorem erase_eq {α : Type} {L : List α} {i : Nat} : L.eraseIdx i = L.take i ++ L.drop (i + 1) := List.eraseIdx_eq_take_drop_succ ..
theorem delete_any (L : List Entry) (g cap i base : Nat) (w : World) (hown : OwnE w base (.slice (some ⟨g, 0, none⟩) L.length cap) L) (hi : i < L.length) (hl : L.length ≤ 100000) :
    Calls Tryz.prog 90 #[.slice (some ⟨g, 0, none⟩) L.length cap, .int .i64 i, .int .i64 ((i : Int) + 1)] w fun e w' => (e = .returned (.slice (some ⟨g, 0, none⟩) (L.eraseIdx i).length cap) ∧ OwnE w' base (.slice (some ⟨g, 0, none⟩) (L.eraseIdx i).length cap) (L.eraseIdx i)) ∧ w.grownBy w' (some g) := by
  obtain ⟨_, hbg, hcap, hmax, cur, hgc, hcs, _⟩ := own_parts hown (by omega)
  have hmax : cap ≤ 9223372036854775807 := hmax
  have hgl : g < w.heap.size := (hown.lt g rfl).2
  obtain ⟨ht, i0, z0, ji, jz0, jz1, jz2, jz3, jz4⟩ := elemEnt
  have hlenE : (L.eraseIdx i).length = i + (L.length - (i + 1)) := by rw [List.length_eraseIdx, if_pos hi]; omega
  -- the cells that are moved to the left
  obtain ⟨news, hnews⟩ : ∃ news, news = (L.drop (i + 1)).flatMap Entry.cs := ⟨_, rfl⟩
  have hlen : news.length = (L.length - (i + 1)) * 5 := by rw [hnews, flat_len ent_len, List.length_drop]
  have hsl : SlEnt w (some ⟨g, 0, none⟩) L := by
    obtain ⟨A', c', e', _, _, h⟩ := hown.sl ent_len
    injection e' with e'
    rw [← e'] at h
    exact h
  obtain ⟨A, hA, hsrc⟩ : ∃ A : Addr, (if cap = i + 1 then some (⟨g, 0, none⟩ : Addr) else some ⟨g, (i + 1) * 5, none⟩) = some A ∧ Hid (∀ t u, news[t]? = some u → w.drew.cell? (A.add t) = some u) := by
    by_cases h : cap = i + 1
    · refine ⟨⟨g, 0, none⟩, by simp [h], fun t u hu => ?_⟩
      have h0 : news.length = 0 := by rw [hlen, show L.length - (i + 1) = 0 by omega, Nat.zero_mul]
      rw [List.length_eq_zero_iff.1 h0] at hu
      simp at hu
    · refine ⟨⟨g, (i + 1) * 5, none⟩, by simp [h], fun t u hu => ?_⟩
      rw [hnews] at hu
      obtain ⟨k, hk, r, rfl, hr, hu'⟩ := flat_at ent_len hu
      rw [List.getElem_drop] at hu'
      have h1 := (hsl.cells (k := i + 1 + k) (by rw [List.length_drop] at hk; omega)).2 r u hu'
      rw [Addr.add_lit, show (i + 1) * 5 + (k * 5 + r) = 0 + (i + 1 + k) * 5 + r by omega]
      exact h1
  have s1 : Hid (news.length = (L.length - (i + 1)) * 5) := hlen
  have s2 : Hid (∀ u ∈ news, u.oneCell' = true) := by
    intro u hu
    rw [hnews] at hu
    obtain ⟨y, _, hy⟩ := List.mem_flatMap.1 hu
    exact ent_one y u hy
  have s3 : Hid (∀ t, t < news.length → (w.drew.cell? ⟨g, 0 + i * 5 + t, none⟩).isSome = true ∧ w.drew.frozen? ⟨g, 0 + i * 5 + t, none⟩ = false) := by
    intro t ht
    rw [hlen] at ht
    exact own_cell hown (by omega) (by omega)
  have hpre : L.take i <+: L := List.take_prefix _ _
  have htl : (L.take i).length = i := by rw [List.length_take]; omega
  obtain ⟨W1, hW1⟩ : ∃ W1, W1 = w.drew.setCells g (0 + i * 5) news := ⟨_, rfl⟩
  have hown1 : OwnE W1 base (.slice (some ⟨g, 0, none⟩) (L.eraseIdx i).length cap) (L.eraseIdx i) := by
    have h := own_turn ent_len hown.drew (by omega) (B := L.drop (i + 1)) hpre (by rw [← erase_eq, hlenE]; omega)
    rw [← erase_eq, htl] at h
    rw [hW1, hnews, Nat.zero_add]
    exact h
  have hgr1 : w.grownBy W1 (some g) := by
    rw [hW1]
    have h := grownBy_setCells g news (0 + i * 5) w.drew
    exact ⟨h.os, h.tape, h.output, h.size, h.block⟩
  have hz1 : W1.heap.size = w.heap.size := by rw [hW1, size_setCells']; rfl
  have hgc1 : W1.heap[g]? = some (.cells (over cur (0 + i * 5) news) 60 (0, 0)) := by rw [hW1]; exact heap_setCells_same g _ news _ _ cur hgc
  have hin : ∀ j, j < cap * 5 → (W1.cell? ⟨g, j, none⟩).isSome = true ∧ W1.frozen? ⟨g, j, none⟩ = false := by
    intro j hj
    constructor
    · rw [cell_of_row W1 g j _ _ _ hgc1, Array.getElem?_eq_getElem (by rw [over_size, hcs]; exact hj)]
      rfl
    · unfold World.frozen?
      simp [hgc1]
  have hcl : ∀ ty, (Builtin.clear_ #[45] ty #[.slice (some ⟨g, (i + (L.length - (i + 1))) * 5, none⟩) 1 (cap - (i + (L.length - (i + 1))))]).run Tryz.prog W1 = .ok (.tuple #[]) (W1.setCells g ((i + (L.length - (i + 1))) * 5) zE.cells.toList) :=
    fun ty => run_clear_one W1 _ _ ty _ Tryz.underlying45 zero_ent (by decide) g _ _ (fun t ht => (hin _ (by have : t < 5 := ht; omega)).1) (fun t ht => (hin _ (by have : t < 5 := ht; omega)).2)
  obtain ⟨W2, hW2⟩ : ∃ W2, W2 = W1.setCells g ((i + (L.length - (i + 1))) * 5) zE.cells.toList := ⟨_, rfl⟩
  have hown2 : OwnE W2 base (.slice (some ⟨g, 0, none⟩) (L.eraseIdx i).length cap) (L.eraseIdx i) := by
    rw [hW2]
    exact own_above ent_len hown1 (by rw [hlenE]; exact Nat.le_refl _) (by show _ + 5 ≤ _; omega) (by omega)
  have hgr2 : w.grownBy W2 (some g) := by rw [hW2]; exact hgr1.trans (grownBy_setCells g _ _ W1)
  rw [← hW2] at hcl
  have HW1 := Lib.hid hW1
  have HOW := Lib.hid hown2
  have HLE := Lib.hid hlenE
  have hic : i ≤ cap := by omega
  have hjc : i + 1 ≤ cap := by omega
  have hd1 : L.length - (i + (L.length - (i + 1))) = 1 := by omega
  have hwr : IntKind.i64.wrap ((i : Int) + 1) = (i : Int) + 1 := by rw [IntKind.wrap_i64]; omega
  have hp0 : (0 : Int) ≤ (i : Int) + 1 := by omega
  have hp1 : (i : Int) + 1 ≤ (L.length : Int) := by omega
  have hp2 : ((i : Int) + 1).toNat = i + 1 := by omega
  clear hW1 hown1 hgr1 hgc1 hin hown2 hgc hcs hnews hlen hsl hpre htl hlenE hW2 hown
  go_enter Tryz.func90, Tryz.ntmps90
  go_wp2_with fail
  go_region_law (refine step_append_room rfl (.tmp 22) (.tmp 25) 45 rfl 60 i0 5 ht ji jz1 g 0 i cap (by simp [Act.eval, Act.put]) A (L.length - (i + 1)) (cap - (i + 1)) news (by simp [Act.eval, Act.put]) s1.out hsrc.out s2.out (by omega) s3.out ?_; rw [← HW1.out])
  go_wp2_with fail
  go_ret
  refine ⟨⟨?_, HOW.out⟩, hgr2⟩
  rw [HLE.out]
  rfl
end Go.Proofs.YtmlhoojcdidgkaaGreat

/-
  Contracts of package ledger: open entries.
-/
namespace Go.Proofs.YtmlhoojcdidgkaaGreat
set_option linter.unusedSimpArgs false
set_option linter.unusedVariables false
open Go.RowKit
open Go.Sort (grow size_grow)

set_option maxHeartbeats 4000000
set_option maxRecDepth 100000
theorem turned_any (x : Entry) (w : World) : Calls Tryz.prog 57 #[x.v] w fun e w' => e = .returned (turned x).v ∧ Below w.heap.size w w' := by
  go_enter Tryz.func57, Tryz.ntmps57
  go_wp2_with fail
  refine bodyPost_ret (v := (turned x).v) (by simp [results, Tryz.results57, go_sem, turned]) rfl ⟨rfl, ?_⟩
  repeat' (first
    | (with_reducible exact Below.refl _ _)
    | (with_reducible assumption)
    | (with_reducible refine below_drewN ?_ _)
    | (with_reducible refine Below.drew ?_)
    | (with_reducible refine below_regrown_up _ _ ?_ ?_)
    | (with_reducible refine Below.alloc ?_ ?_ _)
    | (with_reducible refine Below.setCell ?_ ?_ _)
    | (with_reducible refine below_up ?_ ?_ (by assumption))
    | (with_reducible exact Nat.le_refl _)
    | omega
    | (simp; done)
    | (simp; omega))
theorem open1_any (x y : Entry) (be : Nat) (w : World) (hc : ∀ (j : Nat) (u : Value), x.cs[j]? = some u → w.cell? ⟨be, j, none⟩ = some u) (hbe : be < w.heap.size) :
    Calls Tryz.prog 89 #[y.v, .pointer (some ⟨be, 0, none⟩)] w fun e w' => e = .returned (.bool (against x y)) ∧ Below w.heap.size w w' := by
  have q0 := hc 0 _ rfl
  have q1 := hc 1 _ rfl
  have q2 := hc 2 _ rfl
  have q3 := hc 3 _ rfl
  have q4 := hc 4 _ rfl
  have ha : against x y = (decide (y.credit = x.debit) && (decide (y.debit = x.credit) && (decide (y.cents = x.cents) && decide (y.ref = x.ref)))) := by
    unfold against
    rw [Bool.eq_iff_iff]
    simp
  have HA := Lib.hid ha
  clear ha hc
  go_enter Tryz.func89, Tryz.ntmps89
  go_wp2_with (go_at_call 57; refine (turned_any y _).mono ?_; unfold turned; rintro e w1 ⟨rfl, hb1⟩; have hz1 := hb1.size; (try simp only [World.size_alloc, World.size_setCell, World.size_drew, size_drewN', size_grow, size_redrawn] at hz1); obtain ⟨hc1, hf1⟩ := bcellB (B := be + 1) hb1 (by first | omega | (simp only [World.size_alloc, World.size_setCell, World.size_drew, size_drewN', size_grow, size_redrawn]; omega)); have lbe1 : be < w1.heap.size := (by omega))
  go_ret
  refine ⟨ret_bool ?_, ?_⟩
  · rw [HA.out]
    try simp
  · repeat' (first
      | (with_reducible exact Below.refl _ _)
      | (with_reducible assumption)
      | (with_reducible refine below_drewN ?_ _)
      | (with_reducible refine Below.drew ?_)
      | (with_reducible refine below_regrown_up _ _ ?_ ?_)
      | (with_reducible refine Below.alloc ?_ ?_ _)
      | (with_reducible refine Below.setCell ?_ ?_ _)
      | (with_reducible refine below_up ?_ ?_ (by assumption))
      | (with_reducible exact Nat.le_refl _)
      | omega
      | (simp; done)
      | (simp; omega))
def lixI {α : Type} (p : α → Bool) (l : List α) : Int := match lastIx p l with | some i => i | none => -1
theorem last1_any (x : Entry) (be : Nat) (l : List Entry) (A : Option Addr) (c : Nat) (w : World) (hs : SlEnt w A l) (hl : l.length ≤ 140737488355328) (hc : ∀ (j : Nat) (u : Value), x.cs[j]? = some u → w.cell? ⟨be, j, none⟩ = some u) (hbe : be < w.heap.size) :
    Calls Tryz.prog 88 #[.slice A l.length c, .func (.func 89) #[] #[.pointer (some ⟨be, 0, none⟩)]] w fun e w' => e = .returned (.int .i64 (lixI (against x) l)) ∧ Below w.heap.size w w' := by
  have HCC := Lib.hid hc
  clear hc
  go_enter Tryz.func88, Tryz.ntmps88
  go_wp2
  go_loopw [5] (fun i wr => ∃ k : Int, -1 ≤ k ∧ k < l.length ∧ i = .int .i64 k ∧ Hid (∀ j (h : j < l.length), k < j → against x l[j] = false) ∧ Below w.heap.size w wr) (fun i _ => (intOf i + 1).toNat)
  case atStart => exact ⟨_, by omega, by omega, rfl, Lib.hid (fun j h hj => by omega), Below.refl _ _⟩
  case round =>
    obtain ⟨k, hk1, hk2, rfl, hn, hbw⟩ := hrel
    have hbz := hbw.size
    by_cases hlt : 0 ≤ k
    · obtain ⟨m, rfl⟩ : ∃ m : Nat, k = (m : Int) := ⟨k.toNat, by omega⟩
      have hm : m < l.length := by omega
      obtain ⟨b, off, rfl, hbl, hcell⟩ := (hs.below hbw).at_ hm
      have q0 := hcell 0 _ rfl
      have q1 := hcell 1 _ rfl
      have q2 := hcell 2 _ rfl
      have q3 := hcell 3 _ rfl
      have q4 := hcell 4 _ rfl
      rw [Nat.add_zero] at q0
      have hcw : ∀ (j : Nat) (u : Value), x.cs[j]? = some u → wr.cell? ⟨be, j, none⟩ = some u := fun j u hu => (hbw.cell (p := ⟨be, j, none⟩) hbe).trans (HCC.out j u hu)
      have HCW := Lib.hid hcw
      clear hcell hcw
      have hx1 : (m : Int) < (l.length : Int) := by omega
      have hx4 : (0 : Int) ≤ (m : Int) := by omega
      cases hag : against x l[m] with
      | true =>
        go_wp2_with (go_at_call 89; refine (open1_any x l[m] be _ HCW.out (by omega)).mono ?_; rintro e w1 ⟨rfl, hb1⟩; rw [hag])
        go_ret
        refine ⟨ret_int ?_, ?_⟩
        · unfold lixI
          rw [lastIx_eq hm hag (fun j hj hjm => hn.out j hj (by omega))]
        · repeat' (first
            | (with_reducible exact Below.refl _ _)
            | (with_reducible assumption)
            | (with_reducible refine below_drewN ?_ _)
            | (with_reducible refine Below.drew ?_)
            | (with_reducible refine below_regrown_up _ _ ?_ ?_)
            | (with_reducible refine Below.alloc ?_ ?_ _)
            | (with_reducible refine Below.setCell ?_ ?_ _)
            | (with_reducible refine below_up ?_ ?_ (by assumption))
            | (with_reducible exact Nat.le_refl _)
            | omega
            | (simp; done)
            | (simp; omega))
      | false =>
        go_wp2_with (go_at_call 89; refine (open1_any x l[m] be _ HCW.out (by omega)).mono ?_; rintro e w1 ⟨rfl, hb1⟩; rw [hag])
        go_roundw
        case rel =>
          refine ⟨(m : Int) - 1, by omega, by omega, by go_num, Lib.hid (fun j h hj => ?_), ?_⟩
          · by_cases e : j = m
            · subst e; exact hag
            · exact hn.out j h (by omega)
          · repeat' (first
              | (with_reducible exact Below.refl _ _)
              | (with_reducible assumption)
              | (with_reducible refine below_drewN ?_ _)
              | (with_reducible refine Below.drew ?_)
              | (with_reducible refine below_regrown_up _ _ ?_ ?_)
              | (with_reducible refine Below.alloc ?_ ?_ _)
              | (with_reducible refine Below.setCell ?_ ?_ _)
              | (with_reducible refine below_up ?_ ?_ (by assumption))
              | (with_reducible exact Nat.le_refl _)
              | omega
              | (simp; done)
              | (simp; omega))
        case measure => simp [intOf] <;> omega
    · go_wp2
      go_ret
      refine ⟨ret_int ?_, hbw⟩
      unfold lixI
      have hnone : lastIx (against x) l = none := lastIx_none_iff.2 (fun y hy => by
        obtain ⟨j, hj, rfl⟩ := List.getElem_of_mem hy
        exact hn.out j hj (by omega))
      rw [hnone]
theorem openE_snoc {l : List Entry} {ref : Int} {m : Nat} (h : m < l.length) : openE (l.take (m + 1)) ref = openStep ref (openE (l.take m) ref) l[m] := by
  unfold openE
  rw [List.take_succ_eq_append_getElem h, List.foldl_append]
  rfl
theorem openE_len (ref : Int) : ∀ (l : List Entry) (out : List Entry), (l.foldl (openStep ref) out).length ≤ out.length + l.length
  | [], out => by simp
  | e :: l, out => by
    rw [List.foldl_cons, List.length_cons]
    have := openE_len ref l (openStep ref out e)
    have h2 : (openStep ref out e).length ≤ out.length + 1 := by
      unfold openStep
      split
      · omega
      · split
        · have := List.length_eraseIdx_le out (by assumption)
          omega
        · simp
    omega
theorem openE_le (l : List Entry) (ref : Int) : (openE l ref).length ≤ l.length := by
  have := openE_len ref l []
  simpa [openE] using this
theorem lixI_some {α : Type} {p : α → Bool} {l : List α} {i : Nat} (h : lastIx p l = some i) : lixI p l = i := by unfold lixI; rw [h]
theorem lixI_none {α : Type} {p : α → Bool} {l : List α} (h : lastIx p l = none) : lixI p l = -1 := by unfold lixI; rw [h]
end Go.Proofs.YtmlhoojcdidgkaaGreat

/-
  Contracts of package ledger: open entries; undoing.
-/
namespace Go.Proofs.YtmlhoojcdidgkaaGreat
set_option linter.unusedSimpArgs false
set_option linter.unusedVariables false
open Go.RowKit
open Go.Sort (grow size_grow)

set_option maxHeartbeats 4000000
set_option maxRecDepth 100000
theorem openStep_other {ref : Int} {out : List Entry} {e : Entry} (h : e.ref ≠ ref) : openStep ref out e = out := by unfold openStep; rw [if_pos h]
theorem openStep_none {ref : Int} {out : List Entry} {e : Entry} (h : e.ref = ref) (hn : lastIx (against e) out = none) : openStep ref out e = out ++ [e] := by unfold openStep; rw [if_neg (by simpa using h), hn]
theorem openStep_some {ref : Int} {out : List Entry} {e : Entry} {i : Nat} (h : e.ref = ref) (hn : lastIx (against e) out = some i) : openStep ref out e = out.eraseIdx i := by unfold openStep; rw [if_neg (by simpa using h), hn]

theorem open_any (l : List Entry) (A : Option Addr) (c : Nat) (ref : Int) (w : World) (hs : SlEnt w A l) (hl : l.length ≤ 5000) :
    Calls Tryz.prog 56 #[.slice A l.length c, .int .i64 ref] w fun e w' => (∃ v, e = .returned v ∧ OwnE w' w.heap.size v (openE l ref)) ∧ Below w.heap.size w w' := by
  go_enter Tryz.func56, Tryz.ntmps56
  go_wp2
  go_loopw [5, 11] (fun v i wr => ∃ m : Nat, m ≤ l.length ∧ i = .int .i64 m ∧ OwnE wr w.heap.size v (openE (l.take m) ref) ∧ Below w.heap.size w wr) (fun _ i _ => l.length - (intOf i).toNat)
  case atStart => exact ⟨0, by omega, rfl, OwnL.nil_, Below.refl _ _⟩
  case round =>
    obtain ⟨m, hm, rfl, hown, hbw⟩ := hrel
    have hbz := hbw.size
    by_cases hlt : m < l.length
    · have hx1 : (m : Int) < (l.length : Int) := by omega
      have hx4 : (0 : Int) ≤ (m : Int) := by omega
      obtain ⟨b, off, rfl, hbl, hcell⟩ := (hs.below hbw).at_ hlt
      have q0 := hcell 0 _ rfl
      have q1 := hcell 1 _ rfl
      have q2 := hcell 2 _ rfl
      have q3 := hcell 3 _ rfl
      have q4 := hcell 4 _ rfl
      rw [Nat.add_zero] at q0
      clear hcell
      have hsn := openE_snoc (ref := ref) hlt
      have hlen := openE_le (l.take m) ref
      rw [List.length_take] at hlen
      have hlen2 : (openE (l.take m) ref).length ≤ 5000 := by omega
      clear hlen
      generalize hout : openE (l.take m) ref = out at *
      clear hout
      have HSN := Lib.hid hsn
      clear hsn
      by_cases hr : l[m].ref = ref
      · have hrb : (l[m].ref != ref) = false := by simpa using hr
        have HR := Lib.hid hr
        clear hr
        obtain ⟨A2, c2, rfl, hc2, _, hsl2⟩ := hown.sl ent_len
        have hb0 : Below wr.heap.size wr (wr.alloc (.cells #[.int .i64 l[m].day, .int .i64 l[m].debit, .int .i64 l[m].credit, .int .i64 l[m].cents, .int .i64 l[m].ref] 60)) := (Below.refl _ _).alloc (Nat.le_refl _) _
        cases hix : lastIx (against l[m]) out with
        | none =>
          have hli := lixI_none hix
          have HN := Lib.hid (openStep_none HR.out hix)
          clear hix
          go_wp2_with (first
            | (go_at_call 88; refine (last1_any l[m] wr.heap.size out A2 c2 _ (hsl2.up hb0) (by omega) (news_new _ _ _ _ rfl) (by simp)).mono ?_; rintro e w1 ⟨rfl, hb1⟩; have hz1 := hb1.size; (try simp only [World.size_alloc, World.size_setCell, World.size_drew, size_drewN', size_grow, size_redrawn] at hz1); obtain ⟨hc1, hf1⟩ := bcellB (B := wr.heap.size + 1) hb1 (by first | omega | (simp only [World.size_alloc, World.size_setCell, World.size_drew, size_drewN', size_grow, size_redrawn]; omega)); rw [hli])
            | (at_builtin; go_loud (refine wpList_push _ rfl (.tmp 24) (.tmp 26) 45 60 rfl w.heap.size 5 40 Entry.cs elemEnt ent_len ent_one _ out rfl (((hown.alloc _).below hb1).alloc _) _ 1 l[m] rfl (news_new _ _ _ _ rfl) (by first | omega | (simp; done) | (simp; omega)) (by first | omega | (simp; done) | (simp; omega)) (by first | omega | (simp; done) | (simp; omega)) ?_); intro v2 w5 hown5 hgrow5))
          have hb5 : Below w.heap.size w w5 := below_push (by repeat' (first | (with_reducible exact Below.refl _ _) | (with_reducible assumption) | (with_reducible refine below_drewN ?_ _) | (with_reducible refine Below.drew ?_) | (with_reducible refine below_regrown_up _ _ ?_ ?_) | (with_reducible refine Below.alloc ?_ ?_ _) | (with_reducible refine Below.setCell ?_ ?_ _) | (with_reducible refine below_up ?_ ?_ (by assumption)) | (with_reducible exact Nat.le_refl _) | omega | (simp; done) | (simp; omega))) (((hown.alloc _).below hb1).alloc _) hgrow5 (by first | omega | (simp; done) | (simp; omega))
          go_roundw
          case rel =>
            refine ⟨m + 1, by omega, by go_num, ?_, hb5⟩
            rw [HSN.out, HN.out]
            exact hown5
          case measure => simp [intOf]; omega
        | some i =>
          have hli := lixI_some hix
          obtain ⟨hi, _, _⟩ := lastIx_some hix
          have HN := Lib.hid (openStep_some HR.out hix)
          clear hix
          obtain ⟨g, cap, hv, hgb, hgl⟩ := World.ownsRow.form hown (by omega)
          injection hv with hA2 _ hcap
          subst hA2 hcap
          have hneg : decide ((i : Int) < 0) = false := by simp
          go_wp2_with (first
            | (go_at_call 88; refine (last1_any l[m] wr.heap.size out _ c2 _ (hsl2.up hb0) (by omega) (news_new _ _ _ _ rfl) (by simp)).mono ?_; rintro e w1 ⟨rfl, hb1⟩; have hz1 := hb1.size; (try simp only [World.size_alloc, World.size_setCell, World.size_drew, size_drewN', size_grow, size_redrawn] at hz1); obtain ⟨hc1, hf1⟩ := bcellB (B := wr.heap.size + 1) hb1 (by first | omega | (simp only [World.size_alloc, World.size_setCell, World.size_drew, size_drewN', size_grow, size_redrawn]; omega)); rw [hli])
            | (go_at_call 90; refine (delete_any out g c2 i w.heap.size _ ((hown.alloc _).below hb1) hi (by omega)).mono ?_; rintro e w5 ⟨⟨rfl, hown5⟩, hgrow5⟩))
          have hb01 : Below w.heap.size w w1 := (by repeat' (first | (with_reducible exact Below.refl _ _) | (with_reducible assumption) | (with_reducible refine below_drewN ?_ _) | (with_reducible refine Below.drew ?_) | (with_reducible refine below_regrown_up _ _ ?_ ?_) | (with_reducible refine Below.alloc ?_ ?_ _) | (with_reducible refine Below.setCell ?_ ?_ _) | (with_reducible refine below_up ?_ ?_ (by assumption)) | (with_reducible exact Nat.le_refl _) | omega | (simp; done) | (simp; omega)))
          have hb5 : Below w.heap.size w w5 := hb01.grown hgrow5 hb01.size (fun k e => by cases e; exact hgb)
          go_roundw
          case rel =>
            refine ⟨m + 1, by omega, by go_num, ?_, hb5⟩
            rw [HSN.out, HN.out]
            exact hown5
          case measure => simp [intOf]; omega
      · have hrb : (l[m].ref != ref) = true := by simpa using hr
        have HR := Lib.hid hr
        clear hr
        go_wp2_with fail
        go_roundw
        case rel =>
          refine ⟨m + 1, by omega, by go_num, ?_, ?_⟩
          · rw [HSN.out, openStep_other HR.out]
            exact hown.alloc _
          · repeat' (first
              | (with_reducible exact Below.refl _ _)
              | (with_reducible assumption)
              | (with_reducible refine below_drewN ?_ _)
              | (with_reducible refine Below.drew ?_)
              | (with_reducible refine below_regrown_up _ _ ?_ ?_)
              | (with_reducible refine Below.alloc ?_ ?_ _)
              | (with_reducible refine Below.setCell ?_ ?_ _)
              | (with_reducible refine below_up ?_ ?_ (by assumption))
              | (with_reducible exact Nat.le_refl _)
              | omega
              | (simp; done)
              | (simp; omega))
        case measure => simp [intOf]; omega
    · obtain rfl : m = l.length := by omega
      rw [List.take_of_length_le (Nat.le_refl _)] at hown
      obtain ⟨A2, c2, rfl, _, _⟩ := hown.form
      go_wp2
      go_ret
      exact ⟨⟨_, rfl, hown⟩, hbw⟩
end Go.Proofs.YtmlhoojcdidgkaaGreat
