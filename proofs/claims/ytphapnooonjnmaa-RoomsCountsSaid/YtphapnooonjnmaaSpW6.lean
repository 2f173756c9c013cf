/-
  Package span: what compares; the iterator over the pieces.
-/
import Derived.Test.YtphapnooonjnmaaSpP2
import Derived.Test.YtphapnooonjnmaaRangeT
namespace Go.Proofs.Ytphapnooonjnmaa
set_option linter.unusedSimpArgs false
set_option linter.unusedVariables false
open Go.RowKit Go.Shelf
open Go.Sort (grow size_grow)

set_option maxHeartbeats 2000000
set_option maxRecDepth 100000
attribute [local go_sem] Oper.semAt_some
theorem cmp_pos : CmpOf 61 (fun x y : E3 => Lib.compareInt x.1 y.1) := ⟨enters_of Try.func61 (by kernel_rfl) rfl, fun x y W => by
  have hcon := fun W' => cmp_any x.1 y.1 W'
  dsimp only
  generalize Lib.compareInt x.1 y.1 = r at hcon ⊢
  go_enter Try.func61, Try.ntmps61
  go_wp2_with (go_at_call 62; refine (hcon _).mono ?_; rintro e w' ⟨rfl, rfl⟩)
  go_ret
  exact ⟨rfl, 0, _, by rw [Go.Sort.alloc_eq_grow, Go.Sort.alloc_eq_grow, Go.Sort.grow_grow]; rfl⟩⟩
def tOwn (t : TypeId) : Bool := t == 79 || t == 66
def Piece.args (x : Piece) : Array Value := #[x.1.v, .agg #[.bool x.2.1, .bool x.2.2]]
theorem name_wpIn {F : Fence} {n : Nat} {P : Program} {c : Code} {Q : Exit → Act → World → Prop} {a : Act} {w : World} (h : ∀ w', w' = w → c.wpIn F n P Q a w') : c.wpIn F n P Q a w := h w rfl
theorem drew_heap {U : World} {k : Nat} {o : Option Obj} (h : U.heap[k]? = o) : U.drew.heap[k]? = o := h
theorem keepOn_drew {X : Nat → Prop} {A B : World} (h : KeepOn X A B) : KeepOn X A B.drew := h
theorem pcs_in (n : Nat) (hn : 1 ≤ n) (l B1 B2 : Nat) (a b : List Spn) (A B : Option Addr) (c d : Nat) (J : List Piece → World → Prop) (W : World) (hva : setOk a = true) (hvb : setOk b = true)
    (hJ : ∀ pre U U', J pre U → Mild tOwn W.heap.size U U' → J pre U')
    (hY : ∀ pre x U, J pre U → pre.length < 2 * (a.length + b.length) → YieldAt Fence.wide (n - 1) Try.prog l (Piece.args x) U fun e U' => e = .returned (.bool true) ∧ J (pre ++ [x]) U' ∧ KeepT tOwn U U')
    (c1 : W.cell? ⟨B1, 0, none⟩ = some (.slice A a.length c)) (c2 : W.cell? ⟨B2, 0, none⟩ = some (.slice B b.length d)) (ha : SlSpn W A a) (hb : SlSpn W B b) (h0 : J [] W) :
    CallsIn Fence.wide n Try.prog 58 #[.func (.yield l) #[] #[], .pointer (some ⟨B1, 0, none⟩), .pointer (some ⟨B2, 0, none⟩)] W fun e W' => (∃ v, e = .returned v) ∧ ∃ xs, (∃ q, SortedEnds a b q ∧ xs = (runS q).1) ∧ J xs W' := by
  have HY := Lib.hid hY
  have HJ := Lib.hid hJ
  have HJ0 := Lib.hid h0
  have hla := (setOk_iff.1 hva).2.2
  have hlb := (setOk_iff.1 hvb).2.2
  have hl1 := World.block_lt_of_cell? W _ c1
  have hl2 := World.block_lt_of_cell? W _ c2
  simp only at hl1 hl2
  obtain ⟨na, hna⟩ : ∃ na, a.length = na := ⟨_, rfl⟩
  obtain ⟨nb, hnb⟩ : ∃ nb, b.length = nb := ⟨_, rfl⟩
  have HA : ∀ W', Below W.heap.size W W' → Calls Try.prog 59 #[.slice A na c, .int .i64 0] W' fun e w' => (∃ v, e = .returned v ∧ OwnL w' W'.heap.size 79 3 e3C v (endsOf a 0)) ∧ Below W'.heap.size W' w' := fun W' h => by
    rw [← hna]
    exact ends_any a A c 0 W' (ha.up h) (by omega)
  have HB : ∀ W', Below W.heap.size W W' → Calls Try.prog 59 #[.slice B nb d, .int .i64 1] W' fun e w' => (∃ v, e = .returned v ∧ OwnL w' W'.heap.size 79 3 e3C v (endsOf b 1)) ∧ Below W'.heap.size W' w' := fun W' h => by
    rw [← hnb]
    exact ends_any b B d 1 W' (hb.up h) (by omega)
  rw [hna] at c1
  rw [hnb] at c2
  have HNA := Lib.hid hna
  have HNB := Lib.hid hnb
  rw [hna] at hla
  rw [hnb] at hlb
  clear hna hnb ha hb
  clear hY hJ h0
  refine callsIn_of_wp Try.func58 rfl trivial ?_ rfl
  simp only [Try.ntmps58, List.size_toArray, List.length_cons, List.length_nil, Nat.reduceAdd, Nat.reduceSub, Array.replicate_succ, Array.replicate_zero, List.push_toArray, List.append_toArray, List.nil_append, List.cons_append]
  gi_wp2_with fail
  refine wpIn_wide.2 ?_
  have hEA : (endsOf a 0).length = 2 * na := by rw [endsOf_len, HNA.out]
  have hEB : (endsOf b 1).length = 2 * nb := by rw [endsOf_len, HNB.out]
  have HEA := Lib.hid hEA
  have HEB := Lib.hid hEB
  clear hEA hEB
  have HS1 : Hid True := Lib.hid trivial
  go_region_law (first
    | (go_simp; go_at_call 59; have _ := HS1; clear HS1; refine (HA _ ((Below.refl _ W).drew)).mono ?_; rintro e w1 ⟨⟨v1, rfl, hown1⟩, hb1⟩; have hb01 : Below W.heap.size W w1 := (Below.refl _ W).drew.trans hb1; have hz1 := hb01.size; obtain ⟨hc1, hf1⟩ := bcellB (B := W.heap.size) hb01 (Nat.le_refl _))
    | (go_simp; go_at_call 59; refine (HB w1 hb01).mono ?_; rintro e w2 ⟨⟨v2, rfl, hown2⟩, hb2⟩; have hz2 := hb2.size; have hb02 := below_up hb01 hz1 hb2; obtain ⟨A2, cc2, rfl, _, _, hs2⟩ := hown2.sl e3_len)
    | (go_loud (refine step_append_all _ (by rfl) (.tmp 10) (.tmp 12) 76 79 (by rfl) W.heap.size 3 24 e3C elemE3 e3_len e3_one _ (endsOf a 0) (by rfl) (hown1.below hb2) A2 cc2 _ (endsOf b 1) (by rfl) hs2 (by rw [HEA.out, HEB.out]; omega) (by omega) hb02.size ?_); intro v3 w3 hown3 hgrow3 hat3))
  all_goals
    have hb03 : Below W.heap.size W w3 := below_push hb02 (show OwnL w2 W.heap.size 79 3 e3C v1 (endsOf a 0) from hown1.below hb2) hgrow3 hb02.size
    have hz3 := hb03.size
    have hq3 : (endsOf a 0 ++ endsOf b 1).length ≤ 1000000000 := by rw [List.length_append, HEA.out, HEB.out]; omega
    clear hgrow3 hat3 hown1 hown2 hs2 hb2 hb1
    go_simp
    gi_wp2_with (refine ⟨trivial, ?_⟩; gi_at_call 60; refine (callsIn_wide.2 (sort_own cmp_pos swo_pos hown3 hq3)).mono ?_; rintro e w4 ⟨rfl, ⟨q, hqp, hqs, A4, c4, hv, hs4, hblk⟩, hb4⟩)
    have hb04 := hb03.trans hb4
    have hz4 := hb04.size
    have hse : SortedEnds a b q := ⟨hqp, hqs.imp fun h => by rw [lt_pos, decide_eq_false_iff_not] at h; omega⟩
    have hql := hse.len
    rw [HNA.out, HNB.out] at hql
    have HQL := Lib.hid hql
    have hq5 : q.length ≤ 4000 := by omega
    have HSE := Lib.hid hse
    have HBL := Lib.hid hblk
    clear hqp hqs hse hblk hown3 hql
    subst hv
    have HJ5 : Hid (∀ cs : Array Value, J [] (w4.alloc (.cells cs 66))) := Lib.hid fun cs => HJ.out [] W _ HJ0.out (((Mild.refl tOwn W.heap.size W).below hb04).alloc _)
    gi_loopw [6, 18] (fun av i wr => ∃ m : Nat, m ≤ q.length ∧ i = .int .i64 m ∧ av = .int .i64 (runS (q.take m)).2.1 ∧ J (runS (q.take m)).1 wr ∧ wr.heap[w4.heap.size]? = some (.cells #[.bool (runS (q.take m)).2.2.1, .bool (runS (q.take m)).2.2.2] 66 (0, 0)) ∧ KeepOn (fun k => (Value.slice A4 q.length c4).ownBlock = some k) w4 wr ∧ w4.heap.size + 1 ≤ wr.heap.size) (fun _ i _ => q.length - (intOf i).toNat)
    case atStart => exact ⟨0, by omega, rfl, rfl, HJ5.out _, heap_alloc_new w4 _, (KeepOn.refl _ _).alloc (fun k hk => (HBL.out k hk).2.1) _, by simp⟩
    case round =>
      obtain ⟨m, hm, rfl, rfl, hJs, hbox, hko, hsz⟩ := hrel
      by_cases hlt : m < q.length
      · obtain ⟨bk, off, rfl, hbl, hcell⟩ := (hs4.keepOn hko (fun _ b off e => by rw [e]; rfl)).at_ hlt
        have r0 := hcell 0 _ rfl
        have r1 := hcell 1 _ rfl
        have r2 := hcell 2 _ rfl
        rw [Nat.add_zero] at r0
        have hbk : bk < wr.heap.size := by omega
        have hi1 : (m : Int) < (q.length : Int) := by omega
        have hi0 : (0 : Int) ≤ (m : Int) := by omega
        have HSN : Hid (runS (q.take (m + 1)) = runStep (runS (q.take m)) q[m]) := Lib.hid (by rw [List.take_succ_eq_append_getElem hlt, runS_snoc])
        have hpl := runS_len (q.take m)
        rw [List.length_take] at hpl
        obtain ⟨_, _, _, hmk, hsg⟩ := HSE.out.mem (List.getElem_mem hlt)
        generalize q[m] = x at *
        generalize runS (q.take m) = st at *
        obtain ⟨pre, at_, p0, q0⟩ := st
        obtain ⟨xp, xm, xs⟩ := x
        simp only at *
        clear hcell
        have g0 : wr.cell? ⟨w4.heap.size, 0, none⟩ = some (.bool p0) := by rw [cell_of_row wr _ 0 _ _ _ hbox]; rfl
        have g1 : wr.cell? ⟨w4.heap.size, 1, none⟩ = some (.bool q0) := by rw [cell_of_row wr _ 1 _ _ _ hbox]; rfl
        have hgs : w4.heap.size < wr.heap.size := by omega
        have hJa : J pre (wr.alloc (.cells #[.int .i64 xp, .int .i64 xm, .int .i64 xs] 79)) := HJ.out pre wr _ hJs ((Mild.refl tOwn W.heap.size wr).alloc _)
        have hboxa : (wr.alloc (.cells #[.int .i64 xp, .int .i64 xm, .int .i64 xs] 79)).heap[w4.heap.size]? = some (.cells #[.bool p0, .bool q0] 66 (0, 0)) := (Below.heap_alloc wr _ _ hgs).trans hbox
        have hxa : (wr.alloc (.cells #[.int .i64 xp, .int .i64 xm, .int .i64 xs] 79)).heap[wr.heap.size]? = some (.cells #[.int .i64 xp, .int .i64 xm, .int .i64 xs] 79 (0, 0)) := heap_alloc_new wr _
        have hkoa : KeepOn (fun k => (Value.slice (some ⟨bk, off, none⟩) q.length c4).ownBlock = some k) w4 (wr.alloc (.cells #[.int .i64 xp, .int .i64 xm, .int .i64 xs] 79)) := hko.alloc (fun k hk => by have := (HBL.out k hk).2.1; omega) _
        by_cases hgt : at_ < xp
        · have hgb : decide (at_ < xp) = true := by simpa using hgt
          have hpn : pre.length < 2 * (a.length + b.length) := by rw [HNA.out, HNB.out]; have := HQL.out; omega
          obtain ⟨fn, tmps, assign, body, hy, hR⟩ := HY.out pre (⟨at_, xp⟩, p0, q0) _ hJa hpn
          dsimp only [Piece.args, Spn.v] at hy
          gi_wp2
          refine hR.mono ?_
          rintro e W3 ⟨rfl, hJ3, hk3⟩
          have hbox3 := hk3.2 _ _ hboxa rfl
          have hx3 := hk3.2 _ _ hxa rfl
          have hz3' : wr.heap.size + 1 ≤ W3.heap.size := by have := hk3.1; simpa using this
          have hko3 : KeepOn (fun k => (Value.slice (some ⟨bk, off, none⟩) q.length c4).ownBlock = some k) w4 W3 := fun k hk => by
            obtain ⟨_, _, cs, fr, e⟩ := HBL.out k hk
            have e2 := (hkoa k hk).trans e
            exact (hk3.2 k _ e2 rfl).trans e.symm
          clear hJs hbox hko hJa hboxa hxa hkoa r0 r1 r2 g0 g1 hy hR hk3
          gi_wp2_with fail
          have cx0 : (W3).cell? ⟨wr.heap.size, 0, none⟩ = some (.int .i64 xp) := by rw [cell_of_row (W3) _ 0 _ _ _ hx3]; rfl
          have cx1 : (W3).cell? ⟨wr.heap.size, 1, none⟩ = some (.int .i64 xm) := by rw [cell_of_row (W3) _ 1 _ _ _ hx3]; rfl
          have cx2 : (W3).cell? ⟨wr.heap.size, 2, none⟩ = some (.int .i64 xs) := by rw [cell_of_row (W3) _ 2 _ _ _ hx3]; rfl
          have cb0 : (W3).cell? ⟨w4.heap.size, 0, none⟩ = some (.bool p0) := by rw [cell_of_row (W3) _ 0 _ _ _ hbox3]; rfl
          have cb1 : (W3).cell? ⟨w4.heap.size, 1, none⟩ = some (.bool q0) := by rw [cell_of_row (W3) _ 1 _ _ _ hbox3]; rfl
          have fb0 : (W3).frozen? ⟨w4.heap.size, 0, none⟩ = false := by unfold World.frozen?; simp [hbox3]
          have fb1 : (W3).frozen? ⟨w4.heap.size, 1, none⟩ = false := by unfold World.frozen?; simp [hbox3]
          refine wpIn_wide.2 ?_
          rcases hmk with rfl | rfl
          all_goals
            go_region_law (fail)
            all_goals
              gi_wp2
              go_roundw
              case rel =>
                refine ⟨m + 1, by omega, by go_num, by rw [HSN.out]; rfl, ?_, ?_, ?_, ?_⟩
                · rw [HSN.out]
                  dsimp only [runStep]
                  rw [if_pos hgt]
                  (try rw [List.append_nil])
                  exact HJ.out _ _ _ hJ3 (((Mild.refl tOwn W.heap.size _).drew).setCell (p := ⟨w4.heap.size, _, none⟩) (drew_heap hbox3) rfl hz4 _)
                · rw [HSN.out]
                  exact heap_setCell_same _ _ _ _ _ _ (drew_heap hbox3)
                · exact KeepOn.setCell (p := ⟨w4.heap.size, _, none⟩) (keepOn_drew hko3) (fun hk => Nat.lt_irrefl _ (HBL.out _ hk).2.1) _
                · simp; omega
              case measure => simp [intOf]; have := HQL.out; omega
        · have hgb : decide (at_ < xp) = false := by simpa using hgt
          gi_wp2
          refine ⟨fun _ h => (by cases h), ?_⟩
          gi_wp2_with fail
          refine name_wpIn (fun U8 hU8 => ?_)
          have hJ8 : J pre U8 := by rw [hU8]; exact hJa
          have hbox8 : U8.heap[w4.heap.size]? = some (.cells #[.bool p0, .bool q0] 66 (0, 0)) := by rw [hU8]; exact hboxa
          have hx8 : U8.heap[wr.heap.size]? = some (.cells #[.int .i64 xp, .int .i64 xm, .int .i64 xs] 79 (0, 0)) := by rw [hU8]; exact hxa
          have hko8 : KeepOn (fun k => (Value.slice (some ⟨bk, off, none⟩) q.length c4).ownBlock = some k) w4 U8 := by rw [hU8]; exact hkoa
          have hz8 : wr.heap.size + 1 ≤ U8.heap.size := by rw [hU8]; simp
          clear hU8 hJs hbox hko hJa hboxa hxa hkoa r0 r1 r2 g0 g1
          have cx0 : (U8).cell? ⟨wr.heap.size, 0, none⟩ = some (.int .i64 xp) := by rw [cell_of_row (U8) _ 0 _ _ _ hx8]; rfl
          have cx1 : (U8).cell? ⟨wr.heap.size, 1, none⟩ = some (.int .i64 xm) := by rw [cell_of_row (U8) _ 1 _ _ _ hx8]; rfl
          have cx2 : (U8).cell? ⟨wr.heap.size, 2, none⟩ = some (.int .i64 xs) := by rw [cell_of_row (U8) _ 2 _ _ _ hx8]; rfl
          have cb0 : (U8).cell? ⟨w4.heap.size, 0, none⟩ = some (.bool p0) := by rw [cell_of_row (U8) _ 0 _ _ _ hbox8]; rfl
          have cb1 : (U8).cell? ⟨w4.heap.size, 1, none⟩ = some (.bool q0) := by rw [cell_of_row (U8) _ 1 _ _ _ hbox8]; rfl
          have fb0 : (U8).frozen? ⟨w4.heap.size, 0, none⟩ = false := by unfold World.frozen?; simp [hbox8]
          have fb1 : (U8).frozen? ⟨w4.heap.size, 1, none⟩ = false := by unfold World.frozen?; simp [hbox8]
          refine wpIn_wide.2 ?_
          rcases hmk with rfl | rfl
          all_goals
            go_region_law (fail)
            all_goals
              gi_wp2
              go_roundw
              case rel =>
                refine ⟨m + 1, by omega, by go_num, by rw [HSN.out]; rfl, ?_, ?_, ?_, ?_⟩
                · rw [HSN.out]
                  dsimp only [runStep]
                  rw [if_neg (by omega)]
                  (try rw [List.append_nil])
                  exact HJ.out _ _ _ hJ8 (((Mild.refl tOwn W.heap.size _).drew).setCell (p := ⟨w4.heap.size, _, none⟩) (drew_heap hbox8) rfl hz4 _)
                · rw [HSN.out]
                  exact heap_setCell_same _ _ _ _ _ _ (drew_heap hbox8)
                · exact KeepOn.setCell (p := ⟨w4.heap.size, _, none⟩) (keepOn_drew hko8) (fun hk => Nat.lt_irrefl _ (HBL.out _ hk).2.1) _
                · simp; omega
              case measure => simp [intOf]; have := HQL.out; omega
      · obtain rfl : m = q.length := by omega
        rw [List.take_of_length_le (Nat.le_refl _)] at *
        gi_wp2
        go_end0
        exact ⟨⟨_, rfl⟩, _, ⟨q, HSE.out, rfl⟩, hJs⟩
end Go.Proofs.Ytphapnooonjnmaa
