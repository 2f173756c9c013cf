/-
  A row of the call's own, written in its middle; slices.Delete at one entry.
-/
import Derived.Test.YthnncojbckifnaaLed8
import Derived.Lib.SliceRun
namespace Go.Proofs.Ythnncojbckifnaa
set_option linter.unusedSimpArgs false
set_option linter.unusedVariables false
open Go.RowKit
open Go.Sort (grow size_grow)

set_option maxHeartbeats 4000000
set_option maxRecDepth 100000

def over : Array Value → Nat → List Value → Array Value
  | cur, _, [] => cur
  | cur, o, v :: r => over (cur.setIfInBounds o v) (o + 1) r
theorem over_size : ∀ (vs : List Value) (cur : Array Value) (o : Nat), (over cur o vs).size = cur.size
  | [], _, _ => rfl
  | v :: r, cur, o => by rw [over, over_size r]; simp
theorem over_toList : ∀ (vs : List Value) (cur : Array Value) (o : Nat), o + vs.length ≤ cur.size → (over cur o vs).toList = cur.toList.take o ++ vs ++ cur.toList.drop (o + vs.length)
  | [], cur, o, _ => by simp [over]
  | v :: r, cur, o, h => by
    rw [List.length_cons] at h
    have ho : o < cur.toList.length := by rw [Array.length_toList]; omega
    rw [over, over_toList r _ _ (by simp; omega), Array.toList_setIfInBounds]
    have e1 : (cur.toList.set o v).take (o + 1) = cur.toList.take o ++ [v] := by
      rw [List.take_succ_eq_append_getElem (by simpa using ho), List.getElem_set_self, List.take_set, List.set_eq_of_length_le (by rw [List.length_take]; omega)]
    have e2 : (cur.toList.set o v).drop (o + 1 + r.length) = cur.toList.drop (o + (v :: r).length) := by
      rw [List.drop_set, if_pos (by omega), List.length_cons]
      congr 1
      omega
    rw [e1, e2]
    simp
theorem heap_setCells_same (g : Nat) (t : TypeId) : ∀ (vs : List Value) (o : Nat) (w : World) (cs : Array Value), w.heap[g]? = some (.cells cs t (0, 0)) → (w.setCells g o vs).heap[g]? = some (.cells (over cs o vs) t (0, 0))
  | [], _, _, _, h => h
  | v :: r, o, w, cs, h => heap_setCells_same g t r (o + 1) _ _ (heap_setCell_same w g o cs t v h)
theorem size_setCells' (b : Nat) : ∀ (vs : List Value) (o : Nat) (w : World), (w.setCells b o vs).heap.size = w.heap.size
  | [], _, _ => rfl
  | v :: r, o, w => by rw [World.setCells, size_setCells' b r]; simp
theorem grownBy_setCells (g : Nat) : ∀ (vs : List Value) (o : Nat) (w : World), w.grownBy (w.setCells g o vs) (some g)
  | [], _, w => World.grownBy.refl w _
  | v :: r, o, w => (grownBy_setCell' w g v o).trans (grownBy_setCells g r (o + 1) _)
where
  grownBy_setCell' (w : World) (g : Nat) (v : Value) (o : Nat) : w.grownBy (w.setCell ⟨g, o, none⟩ v) (some g) :=
    ⟨rfl, rfl, rfl, by simp, fun k _ hk => Below.heap_setCell w ⟨g, o, none⟩ v k (fun e => hk (by rw [e]))⟩
section
variable {α : Type} {w : World} {base size g cap n : Nat} {e : TypeId} {enc : α → List Value} {L : List α}
theorem own_parts (h : OwnL w base e size enc (.slice (some ⟨g, 0, none⟩) n cap) L) (hn : 0 < n) : n = L.length ∧ base ≤ g ∧ n ≤ cap ∧ cap ≤ maxLen ∧ ∃ cur, w.heap[g]? = some (.cells cur e (0, 0)) ∧ cur.size = cap * size ∧ cur.toList.take (L.length * size) = L.flatMap enc := by
  rcases h.2 with ⟨h1, h0⟩ | ⟨g', cap', cur, h1, hb, hg, h2, h3, h4, h5⟩
  · injection h1 with h1 h2
    cases h1
  · injection h1 with h1 h6 h7
    injection h1 with h1
    injection h1 with h1
    subst h1 h6 h7
    exact ⟨rfl, hb, h2, h3, cur, hg, h4, h5⟩
/-- The cells from the end of A on are turned into those of B: what was A and whatever is A and B. -/
theorem own_turn (he : ∀ x, (enc x).length = size) (h : OwnL w base e size enc (.slice (some ⟨g, 0, none⟩) n cap) L) (hn : 0 < n) {A B : List α} (hA : A <+: L) (hB : (A ++ B).length ≤ cap) :
    OwnL (w.setCells g (A.length * size) (B.flatMap enc)) base e size enc (.slice (some ⟨g, 0, none⟩) (A ++ B).length cap) (A ++ B) := by
  obtain ⟨h0, hb, h2, h3, cur, hg, h4, h5⟩ := own_parts h hn
  obtain ⟨C, hC⟩ := hA
  have hcells := heap_setCells_same g e (B.flatMap enc) (A.length * size) w cur hg
  have hfit : A.length * size + (B.flatMap enc).length ≤ cur.size := by
    rw [flat_len he, h4, ← Nat.add_mul, ← List.length_append]
    exact Nat.mul_le_mul_right _ hB
  refine ⟨flat_len he _, .inr ⟨g, cap, _, rfl, hb, hcells, hB, h3, by rw [over_size, h4], ?_⟩⟩
  rw [over_toList _ _ _ hfit]
  have hA' : cur.toList.take (A.length * size) = A.flatMap enc := by
    have h6 : A.length ≤ L.length := by rw [← hC, List.length_append]; omega
    have h7 := congrArg (List.take (A.length * size)) h5
    rw [List.take_take, Nat.min_eq_left (Nat.mul_le_mul_right _ h6), ← hC, List.flatMap_append, List.take_left' (by rw [flat_len he])] at h7
    exact h7
  rw [hA', ← List.flatMap_append, List.take_left' (by rw [flat_len he])]
/-- What lies behind the row's end may be turned at will. -/
theorem own_above (he : ∀ x, (enc x).length = size) (h : OwnL w base e size enc (.slice (some ⟨g, 0, none⟩) n cap) L) {vs : List Value} {o : Nat} (ho : L.length * size ≤ o) (hfit : o + vs.length ≤ cap * size) (hg0 : g < w.heap.size) :
    OwnL (w.setCells g o vs) base e size enc (.slice (some ⟨g, 0, none⟩) n cap) L := by
  rcases h.2 with ⟨h1, h0⟩ | ⟨g', cap', cur, h1, hb, hg, h2, h3, h4, h5⟩
  · injection h1 with h1 h2
    cases h1
  · injection h1 with h1 h6 h7
    injection h1 with h1
    injection h1 with h1
    subst h1 h6 h7
    refine ⟨flat_len he _, .inr ⟨g, cap, _, rfl, hb, heap_setCells_same g e vs o w cur hg, h2, h3, by rw [over_size, h4], ?_⟩⟩
    have hlen : L.length * size ≤ (cur.toList.take o).length := by
      have h6 := Nat.mul_le_mul_right size h2
      rw [List.length_take, show cur.toList.length = cur.size from Array.length_toList, h4]
      omega
    rw [over_toList _ _ _ (by rw [h4]; exact hfit), List.append_assoc, List.take_append_of_le_length hlen, List.take_take, Nat.min_eq_left ho]
    exact h5
end
theorem run_clear_one {P : Program} (w : World) (t e ty : TypeId) (z : Value) (ht : P.underlying t = some (.slice e)) (hv : ∀ w, (zeroValue e).run P w = .ok z w) (h1 : ∀ u ∈ z.cells.toList, u.oneCell' = true) (b o c : Nat)
    (hc : ∀ j, j < z.cells.size → (w.cell? ⟨b, o + j, none⟩).isSome = true) (hf : ∀ j, j < z.cells.size → w.frozen? ⟨b, o + j, none⟩ = false) :
    (Builtin.clear_ #[t] ty #[.slice (some ⟨b, o, none⟩) 1 c]).run P w = .ok (.tuple #[]) (w.setCells b o z.cells.toList) := by
  have hzc : (Builtin.zeroCells z.cells 1).toList = z.cells.toList := by
    simp only [Builtin.zeroCells, Nat.one_mul]
    apply List.ext_getElem
    · simp
    · intro i g1 g2
      have : i < z.cells.size := by simpa using g2
      simp [Nat.mod_eq_of_lt this, this]
  have hst := run_storeCells_cells (P := P) b o z.cells.toList 0 w (by simpa using hc) (by simpa using hf) h1
  simp only [Nat.add_zero] at hst
  simp [Builtin.clear_, run_underlying ht, hv, hzc, hst]

def zE : Value := .agg #[.int .i64 0, .int .i64 0, .int .i64 0, .int .i64 0, .int .i64 0]
theorem zero_ent (w : World) : (zeroValue 63).run Try.prog w = .ok zE w := by kernel_rfl
theorem own_cell {w : World} {base g n cap : Nat} {L : List Entry} (h : OwnE w base (.slice (some ⟨g, 0, none⟩) n cap) L) (hn : 0 < n) {j : Nat} (hj : j < cap * 5) : (w.cell? ⟨g, j, none⟩).isSome = true ∧ w.frozen? ⟨g, j, none⟩ = false := by
  obtain ⟨_, _, _, _, cur, hg, h4, _⟩ := own_parts h hn
  constructor
  · rw [cell_of_row w g j cur _ _ hg, Array.getElem?_eq_getElem (by omega)]
    rfl
  · unfold World.frozen?
    simp [hg]
theorem erase_eq {α : Type} {L : List α} {i : Nat} : L.eraseIdx i = L.take i ++ L.drop (i + 1) := List.eraseIdx_eq_take_drop_succ ..
theorem delete_any (L : List Entry) (g cap i base : Nat) (w : World) (hown : OwnE w base (.slice (some ⟨g, 0, none⟩) L.length cap) L) (hi : i < L.length) (hl : L.length ≤ 100000) :
    Calls Try.prog 92 #[.slice (some ⟨g, 0, none⟩) L.length cap, .int .i64 i, .int .i64 ((i : Int) + 1)] w fun e w' => (e = .returned (.slice (some ⟨g, 0, none⟩) (L.eraseIdx i).length cap) ∧ OwnE w' base (.slice (some ⟨g, 0, none⟩) (L.eraseIdx i).length cap) (L.eraseIdx i)) ∧ w.grownBy w' (some g) := by
  obtain ⟨_, hbg, hcap, hmax, cur, hgc, hcs, _⟩ := own_parts hown (by omega)
  have hmax : cap ≤ 9223372036854775807 := hmax
  have hgl : g < w.heap.size := (hown.lt g rfl).2
  obtain ⟨ht, i0, z0, ji, jz0, jz1, jz2, jz3, jz4⟩ := elemEnt
  have hlenE : (L.eraseIdx i).length = i + (L.length - (i + 1)) := by rw [List.length_eraseIdx, if_pos hi]; omega
  -- the cells that are moved to the left
  obtain ⟨news, hnews⟩ : ∃ news, news = (L.drop (i + 1)).flatMap Entry.cs := ⟨_, rfl⟩
  have hlen : news.length = (L.length - (i + 1)) * 5 := by rw [hnews, flat_len ent_len, List.length_drop]
  have hsl : SlEnt w (some ⟨g, 0, none⟩) L := by
    obtain ⟨A', c', e', _, _, h⟩ := hown.sl ent_len
    injection e' with e'
    rw [← e'] at h
    exact h
  obtain ⟨A, hA, hsrc⟩ : ∃ A : Addr, (if cap = i + 1 then some (⟨g, 0, none⟩ : Addr) else some ⟨g, (i + 1) * 5, none⟩) = some A ∧ Hid (∀ t u, news[t]? = some u → w.drew.cell? (A.add t) = some u) := by
    by_cases h : cap = i + 1
    · refine ⟨⟨g, 0, none⟩, by simp [h], fun t u hu => ?_⟩
      have h0 : news.length = 0 := by rw [hlen, show L.length - (i + 1) = 0 by omega, Nat.zero_mul]
      rw [List.length_eq_zero_iff.1 h0] at hu
      simp at hu
    · refine ⟨⟨g, (i + 1) * 5, none⟩, by simp [h], fun t u hu => ?_⟩
      rw [hnews] at hu
      obtain ⟨k, hk, r, rfl, hr, hu'⟩ := flat_at ent_len hu
      rw [List.getElem_drop] at hu'
      have h1 := (hsl.cells (k := i + 1 + k) (by rw [List.length_drop] at hk; omega)).2 r u hu'
      rw [Addr.add_lit, show (i + 1) * 5 + (k * 5 + r) = 0 + (i + 1 + k) * 5 + r by omega]
      exact h1
  have s1 : Hid (news.length = (L.length - (i + 1)) * 5) := hlen
  have s2 : Hid (∀ u ∈ news, u.oneCell' = true) := by
    intro u hu
    rw [hnews] at hu
    obtain ⟨y, _, hy⟩ := List.mem_flatMap.1 hu
    exact ent_one y u hy
  have s3 : Hid (∀ t, t < news.length → (w.drew.cell? ⟨g, 0 + i * 5 + t, none⟩).isSome = true ∧ w.drew.frozen? ⟨g, 0 + i * 5 + t, none⟩ = false) := by
    intro t ht
    rw [hlen] at ht
    exact own_cell hown (by omega) (by omega)
  have hpre : L.take i <+: L := List.take_prefix _ _
  have htl : (L.take i).length = i := by rw [List.length_take]; omega
  obtain ⟨W1, hW1⟩ : ∃ W1, W1 = w.drew.setCells g (0 + i * 5) news := ⟨_, rfl⟩
  have hown1 : OwnE W1 base (.slice (some ⟨g, 0, none⟩) (L.eraseIdx i).length cap) (L.eraseIdx i) := by
    have h := own_turn ent_len hown.drew (by omega) (B := L.drop (i + 1)) hpre (by rw [← erase_eq, hlenE]; omega)
    rw [← erase_eq, htl] at h
    rw [hW1, hnews, Nat.zero_add]
    exact h
  have hgr1 : w.grownBy W1 (some g) := by
    rw [hW1]
    have h := grownBy_setCells g news (0 + i * 5) w.drew
    exact ⟨h.os, h.tape, h.output, h.size, h.block⟩
  have hz1 : W1.heap.size = w.heap.size := by rw [hW1, size_setCells']; rfl
  have hgc1 : W1.heap[g]? = some (.cells (over cur (0 + i * 5) news) 63 (0, 0)) := by rw [hW1]; exact heap_setCells_same g _ news _ _ cur hgc
  have hin : ∀ j, j < cap * 5 → (W1.cell? ⟨g, j, none⟩).isSome = true ∧ W1.frozen? ⟨g, j, none⟩ = false := by
    intro j hj
    constructor
    · rw [cell_of_row W1 g j _ _ _ hgc1, Array.getElem?_eq_getElem (by rw [over_size, hcs]; exact hj)]
      rfl
    · unfold World.frozen?
      simp [hgc1]
  have hcl : ∀ ty, (Builtin.clear_ #[31] ty #[.slice (some ⟨g, (i + (L.length - (i + 1))) * 5, none⟩) 1 (cap - (i + (L.length - (i + 1))))]).run Try.prog W1 = .ok (.tuple #[]) (W1.setCells g ((i + (L.length - (i + 1))) * 5) zE.cells.toList) :=
    fun ty => run_clear_one W1 _ _ ty _ Try.underlying31 zero_ent (by decide) g _ _ (fun t ht => (hin _ (by have : t < 5 := ht; omega)).1) (fun t ht => (hin _ (by have : t < 5 := ht; omega)).2)
  obtain ⟨W2, hW2⟩ : ∃ W2, W2 = W1.setCells g ((i + (L.length - (i + 1))) * 5) zE.cells.toList := ⟨_, rfl⟩
  have hown2 : OwnE W2 base (.slice (some ⟨g, 0, none⟩) (L.eraseIdx i).length cap) (L.eraseIdx i) := by
    rw [hW2]
    exact own_above ent_len hown1 (by rw [hlenE]; exact Nat.le_refl _) (by show _ + 5 ≤ _; omega) (by omega)
  have hgr2 : w.grownBy W2 (some g) := by rw [hW2]; exact hgr1.trans (grownBy_setCells g _ _ W1)
  rw [← hW2] at hcl
  have HW1 := Lib.hid hW1
  have HOW := Lib.hid hown2
  have HLE := Lib.hid hlenE
  have hic : i ≤ cap := by omega
  have hjc : i + 1 ≤ cap := by omega
  have hd1 : L.length - (i + (L.length - (i + 1))) = 1 := by omega
  have hwr : IntKind.i64.wrap ((i : Int) + 1) = (i : Int) + 1 := by rw [IntKind.wrap_i64]; omega
  have hp0 : (0 : Int) ≤ (i : Int) + 1 := by omega
  have hp1 : (i : Int) + 1 ≤ (L.length : Int) := by omega
  have hp2 : ((i : Int) + 1).toNat = i + 1 := by omega
  clear hW1 hown1 hgr1 hgc1 hin hown2 hgc hcs hnews hlen hsl hpre htl hlenE hW2 hown
  go_enter Try.func92, Try.ntmps92
  go_wp2_with fail
  go_region_law (refine step_append_room rfl (.tmp 22) (.tmp 25) 31 rfl 63 i0 5 ht ji jz1 g 0 i cap (by simp [Act.eval, Act.put]) A (L.length - (i + 1)) (cap - (i + 1)) news (by simp [Act.eval, Act.put]) s1.out hsrc.out s2.out (by omega) s3.out ?_; rw [← HW1.out])
  go_wp2_with fail
  go_ret
  refine ⟨⟨?_, HOW.out⟩, hgr2⟩
  rw [HLE.out]
  rfl
end Go.Proofs.Ythnncojbckifnaa
