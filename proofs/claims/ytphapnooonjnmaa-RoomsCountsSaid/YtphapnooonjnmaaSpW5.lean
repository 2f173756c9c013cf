/-
  The reference of package span: two sets combined.
-/
import Derived.Test.YtphapnooonjnmaaSpW4
namespace Go.Proofs.Ytphapnooonjnmaa
set_option linter.unusedSimpArgs false
set_option linter.unusedVariables false
open Go.RowKit
open Go.Sort (grow size_grow)

set_option maxHeartbeats 1000000
set_option maxRecDepth 100000
def ptsOf (l : List Spn) : List Int := l.flatMap fun s => [s.frm, s.til]
theorem ptsOf_len (l : List Spn) : (ptsOf l).length = 2 * l.length := by
  induction l with
  | nil => rfl
  | cons s l ih =>
    have e : ptsOf (s :: l) = [s.frm, s.til] ++ ptsOf l := rfl
    rw [e, List.length_append, ih, List.length_cons]
    simp
    omega
theorem mem_pts {l : List Spn} {s : Spn} (h : s ∈ l) : s.frm ∈ ptsOf l ∧ s.til ∈ ptsOf l := by
  unfold ptsOf
  rw [List.mem_flatMap, List.mem_flatMap]
  exact ⟨⟨s, h, by simp⟩, ⟨s, h, by simp⟩⟩
def above (P : List Int) (t : Int) : Nat := (P.filter fun x => decide (t < x)).length
theorem above_le (P : List Int) (t : Int) : above P t ≤ P.length := List.length_filter_le _ _
theorem above_mono {P : List Int} {t z : Int} (h : t ≤ z) : above P z ≤ above P t := by
  unfold above
  induction P with
  | nil => simp
  | cons x P ih =>
    rw [List.filter_cons, List.filter_cons]
    by_cases h1 : z < x
    · rw [if_pos (by simpa using h1), if_pos (by simpa using (show t < x by omega))]
      simpa using ih
    · rw [if_neg (by simpa using h1)]
      split
      · simp; omega
      · exact ih
theorem above_lt {P : List Int} {t z : Int} (h : t < z) (hm : z ∈ P) : above P z < above P t := by
  unfold above
  induction P with
  | nil => cases hm
  | cons x P ih =>
    rw [List.filter_cons, List.filter_cons]
    have hmo := above_mono (P := P) (t := t) (z := z) (by omega)
    unfold above at hmo
    rcases List.mem_cons.1 hm with rfl | hm
    · rw [if_neg (by simp), if_pos (by simpa using h)]
      simp
      omega
    · have h2 := ih hm
      by_cases h1 : z < x
      · rw [if_pos (by simpa using h1), if_pos (by simpa using (show t < x by omega))]
        simp
        omega
      · rw [if_neg (by simpa using h1)]
        split
        · simp; omega
        · exact h2
/-- Between two neighbouring ends nothing turns. -/
theorem has_const {l : List Spn} {t z n : Int} (h : ∀ s ∈ l, (t < s.frm → z ≤ s.frm) ∧ (t < s.til → z ≤ s.til)) (h1 : t ≤ n) (h2 : n < z) : has l n = has l t := by
  rw [Bool.eq_iff_iff, has_iff, has_iff]
  constructor
  · rintro ⟨s, hs, h3, h4⟩
    have := h s hs
    exact ⟨s, hs, by omega, by omega⟩
  · rintro ⟨s, hs, h3, h4⟩
    have := h s hs
    exact ⟨s, hs, by omega, by omega⟩
def fU (p q : Bool) : Bool := p || q
def fM (p q : Bool) : Bool := p && q
def fL (p q : Bool) : Bool := p && !q
theorem own_last {w : World} {base g cap n : Nat} {o : List Spn} {s : Spn} {z : Int} (h : OwnL w base 27 2 Spn.cs (.slice (some ⟨g, 0, none⟩) n cap) (o ++ [s])) (hn : 0 < n) {j : Nat} (hj : j = o.length * 2 + 1) :
    OwnL (w.setCell ⟨g, j, none⟩ (.int .i64 z)) base 27 2 Spn.cs (.slice (some ⟨g, 0, none⟩) n cap) (o ++ [⟨s.frm, z⟩]) := by
  subst hj
  refine own_set spn_len h hn (by simp; omega) (by simp) ?_
  rw [List.flatMap_append, List.flatMap_append, List.set_append, flat_len spn_len, if_neg (by omega), show o.length * 2 + 1 - o.length * 2 = 1 by omega]
  rfl
theorem news_at {w : World} {n : Nat} (cs : Array Value) (t : TypeId) (l : List Value) (h : cs = l.toArray) (hn : n = w.heap.size) : ∀ (j : Nat) (u : Value), l[j]? = some u → (w.alloc (.cells cs t)).cell? ⟨n, j, none⟩ = some u := by subst hn; exact news_new w cs t l h
theorem wrap_small {n : Nat} (h : n ≤ 1000) : wrap64 (n : Int) = (n : Int) := IntWalk.wrap64_in _ (by omega)
theorem name_calls {P : Program} {f : FuncId} {args : Array Value} {w : World} {Q : Ending → World → Prop} (h : ∀ w', w' = w → Calls P f args w' Q) : Calls P f args w Q := h w rfl
theorem rcomb_u (a b : List Spn) (A B : Option Addr) (c d : Nat) (w : World) (ha : SlSpn w A a) (hb : SlSpn w B b) (hva : setOk a = true) (hvb : setOk b = true) (hlen : 2 * (a.length + b.length) ≤ 1000) :
    Calls Try.prog 49 #[.slice A a.length c, .slice B b.length d, .int .i64 1] w fun e w' => (∃ r A' c', e = .returned (.tuple #[.slice A' r.length c', .int .i64 0]) ∧ SlSpn w' A' r ∧ IsComb fU a b r ∧ r.length ≤ 2 * (a.length + b.length)) ∧ Below w.heap.size w w' := by
  have HOK : Hid (∀ s ∈ a ++ b, s.ok = true) := Lib.hid fun s hs => by
    rcases List.mem_append.1 hs with hs | hs
    · exact (setOk_iff.1 hva).1 s hs
    · exact (setOk_iff.1 hvb).1 s hs
  have hla : a.length ≤ 1000 := by omega
  have hlb : b.length ≤ 1000 := by omega
  have hla' : a.length ≤ 140737488355328 := by omega
  have hlb' : b.length ≤ 140737488355328 := by omega
  go_enter Try.func49, Try.ntmps49
  go_wp2_with fail
  refine (rvalid_any a A c _ ha hla').mono ?_
  rintro e w1 ⟨rfl, hb1⟩; have hz1 := hb1.size; (try simp only [World.size_alloc, World.size_setCell, World.size_drew, size_drewN', size_grow, size_redrawn] at hz1); obtain ⟨hc1, hf1⟩ := bcellB (B := w.heap.size) hb1 (by first | omega | (simp only [World.size_alloc, World.size_setCell, World.size_drew, size_drewN', size_grow, size_redrawn]; omega))
  rw [hva]
  go_wp2_with fail
  refine (rvalid_any b B d _ (hb.up hb1) hlb').mono ?_
  rintro e w2 ⟨rfl, hb2⟩; have hz2 := hb2.size; (try simp only [World.size_alloc, World.size_setCell, World.size_drew, size_drewN', size_grow, size_redrawn] at hz2); obtain ⟨hc2, hf2⟩ := bcellB (B := w.heap.size) hb2 (by first | omega | (simp only [World.size_alloc, World.size_setCell, World.size_drew, size_drewN', size_grow, size_redrawn]; omega))
  rw [hvb]
  have hB2 := below_up hb1 hz1 hb2
  go_wp2_with fail
  refine (next_any a b A B c d 0 _ (ha.up hB2) (hb.up hB2) hla hlb HOK.out (by omega)).mono ?_
  rintro e w3 ⟨⟨z0, rfl, hz0⟩, hb3⟩
  have hB3 := below_up hB2 hB2.size hb3
  have HZ0 := Lib.hid hz0
  clear hz0
  go_wp2_with fail
  go_loopw [10, 11, 12] (fun ov tv zv wr => ∃ (out : List Spn) (t z : Int), tv = .int .i64 t ∧ zv = .int .i64 z ∧ OwnL wr w3.heap.size 27 2 Spn.cs ov out ∧ Hid (CInv fU a b out t) ∧ Hid (IsNext (a ++ b) t z) ∧ (0 ≤ t ∧ t ≤ 1000000000) ∧ out.length + above (ptsOf (a ++ b)) t ≤ 2 * (a.length + b.length) ∧ Below w3.heap.size w3 wr) (fun _ tv _ _ => above (ptsOf (a ++ b)) (intOf tv))
  case atStart =>
    refine ⟨[], 0, z0, rfl, rfl, OwnL.nil_, Lib.hid (cinv_start rfl (fun s hs => (Spn.ok_iff.1 (HOK.out s (by simp [hs]))).1) (fun s hs => (Spn.ok_iff.1 (HOK.out s (by simp [hs]))).1)), HZ0, by omega, ?_, Below.refl _ _⟩
    have := above_le (ptsOf (a ++ b)) 0
    rw [ptsOf_len, List.length_append] at this
    simpa using this
  case round =>
    obtain ⟨out, t, z, rfl, rfl, hown, hcv, hnx, ⟨t0, t1⟩, hcnt, hbw⟩ := hrel
    have hbz := hbw.size
    have hB := below_up hB3 hB3.size hbw
    have hBz := hB.size
    by_cases hz : 0 < z
    · have hzd : decide (0 < z) = true := by simpa using hz
      obtain ⟨n1, n2, n3⟩ := isNext_pos hnx.out hz
      have hmem : z ∈ ptsOf (a ++ b) := by
        obtain ⟨s, hs, h | h⟩ := n2
        · rw [h]; exact (mem_pts hs).1
        · rw [h]; exact (mem_pts hs).2
      have hz9 : z ≤ 1000000000 := by
        obtain ⟨s, hs, h⟩ := n2
        have := Spn.ok_iff.1 (HOK.out s hs)
        omega
      have HAB := Lib.hid (above_lt n1 hmem)
      have HCA : Hid (∀ n, t ≤ n → n < z → has a n = has a t ∧ has b n = has b t) := Lib.hid fun n h1 h2 => ⟨has_const (fun s hs => n3 s (by simp [hs])) h1 h2, has_const (fun s hs => n3 s (by simp [hs])) h1 h2⟩
      clear n2 n3 hmem
      obtain ⟨Ao, co, rfl, hco, hcm, hso⟩ := hown.sl spn_len
      have hol : out.length ≤ 1000 := by omega
      have hoi : (out.length : Int) ≤ 1000 := by omega
      go_wp2_with fail
      refine (has_any a A c t _ (ha.up hB) hla').mono ?_
      rintro e w4 ⟨rfl, hb4⟩; have hz4 := hb4.size; (try simp only [World.size_alloc, World.size_setCell, World.size_drew, size_drewN', size_grow, size_redrawn] at hz4); obtain ⟨hc4, hf4⟩ := bcellB (B := w.heap.size) hb4 (by first | omega | (simp only [World.size_alloc, World.size_setCell, World.size_drew, size_drewN', size_grow, size_redrawn]; omega))
      have hB4 := below_up hB hB.size hb4
      have hB4z := hB4.size
      go_wp2_with fail
      refine (has_any b B d t _ (hb.up hB4) hlb').mono ?_
      rintro e w5 ⟨rfl, hb5⟩; have hz5 := hb5.size; (try simp only [World.size_alloc, World.size_setCell, World.size_drew, size_drewN', size_grow, size_redrawn] at hz5); obtain ⟨hc5, hf5⟩ := bcellB (B := w.heap.size) hb5 (by first | omega | (simp only [World.size_alloc, World.size_setCell, World.size_drew, size_drewN', size_grow, size_redrawn]; omega))
      have hB5 := below_up hB4 hB4.size hb5
      have hb35 : Below w3.heap.size w3 w5 := below_up (below_up hbw hbz hb4) (by omega) hb5
      have hown5 := hown.below (below_up hb4 hz4 hb5)
      cases hp : has a t <;> cases hq : has b t
      all_goals
        first
          | (have hin : fU (has a t) (has b t) = false := by rw [hp, hq]; rfl
             have HCV : Hid (CInv fU a b out z) := Lib.hid (cinv_skip hcv.out n1 fun n h1 h2 => by rw [(HCA.out n h1 h2).1, (HCA.out n h1 h2).2]; exact hin)
             have hlw : IntKind.i64.wrap ((out.length : Int) - 1) = (out.length : Int) - 1 := IntWalk.i64_in _ (by omega)
             clear hin
             go_wp2_with fail
             refine (next_any a b A B c d z _ (ha.up hB5) (hb.up hB5) hla hlb HOK.out (by omega)).mono ?_
             rintro e w6 ⟨⟨z2, rfl, hz2⟩, hb6⟩
             have HZ2 := Lib.hid hz2
             clear hz2
             have hb36 := below_up hb35 hb35.size hb6
             go_wp2_with fail
             go_roundw
             case rel => exact ⟨out, z, z2, rfl, rfl, hown5.below hb6, HCV, HZ2, by omega, by have := HAB.out; omega, hb36⟩
             case measure => simpa [intOf] using HAB.out)
          | (have hin : fU (has a t) (has b t) = true := by rw [hp, hq]; rfl
             have HCV : Hid (CInv fU a b (mstep out t z) z) := Lib.hid (cinv_step hcv.out t0 n1 fun n h1 h2 => by rw [(HCA.out n h1 h2).1, (HCA.out n h1 h2).2]; exact hin)
             have HML := Lib.hid (mstep_len out t z)
             clear hin
             rcases split_last out with hno | ⟨o, s, hno⟩
             · subst hno
               have HM1 : Hid (mstep [] t z = [⟨t, z⟩]) := Lib.hid rfl
               have hown5' : OwnL w5 w3.heap.size 27 2 Spn.cs (.slice Ao 0 co) [] := hown5
               have hlw : IntKind.i64.wrap (-1) = -1 := by decide
               go_wp2_with (at_builtin; go_loud (refine wpList_push _ rfl (.tmp 79) (.tmp 83) 23 27 rfl w3.heap.size 2 16 Spn.cs elemSpn spn_len spn_one _ [] rfl (hown5'.alloc _) _ 1 ⟨t, z⟩ rfl (news_at _ _ _ rfl (by simp)) (by first | omega | (simp; done) | (simp; omega)) (by first | omega | (simp; done) | (simp; omega)) (by first | omega | (simp; done) | (simp; omega)) ?_); intro v7 w7 hown7 hgrow7)
               have hb37 : Below w3.heap.size w3 w7 := below_push (hb35.alloc hb35.size _) (hown5'.alloc _) hgrow7 (by simp; omega)
               rw [List.nil_append, ← HM1.out] at hown7
               have hBn := below_up hB3 hB3.size hb37
               refine (next_any a b A B c d z _ (ha.up hBn) (hb.up hBn) hla hlb HOK.out (by omega)).mono ?_
               rintro e w8 ⟨⟨z2, rfl, hz2⟩, hb8⟩
               have HZ2 := Lib.hid hz2
               clear hz2
               have hb38 := below_up hb37 (hb37).size hb8
               go_wp2_with fail
               go_roundw
               case rel => exact ⟨mstep [] t z, z, z2, rfl, rfl, (hown7).below hb8, HCV, HZ2, by omega, by have := HAB.out; have := HML.out; omega, hb38⟩
               case measure => simpa [intOf] using HAB.out
             · subst hno
               obtain ⟨g, cap, hv, hgb, hgl, hcap, hsl, hfz⟩ := own_open spn_len hown5 (by simp)
               injection hv with hv1 hv2 hv3
               subst hv1 hv3
               have q1 := (hsl.cells (k := o.length) (by simp)).2 1 (.int .i64 s.til) (by simp [Spn.cs])
               rw [Nat.zero_add] at q1
               have f1 := hfz (o.length * 2 + 1)
               generalize hL : (o ++ [s]).length = L at *
               have hL' : L = o.length + 1 := by rw [← hL, List.length_append]; rfl
               have HL := Lib.hid hL
               clear hL
               have hw1 : IntKind.i64.wrap ((L : Int) - 1) = (o.length : Int) := by rw [IntWalk.i64_in _ (by omega)]; omega
               have hx1 : (0 : Int) ≤ (o.length : Int) := by omega
               have hx2 : (o.length : Int) < (L : Int) := by omega
               have hx3 : o.length < L := by omega
               have HL' := Lib.hid hL'
               clear hL'
               by_cases hst : s.til = t
               · have hsb : (s.til == t) = true := by simpa using hst
                 have HM1 := Lib.hid (mstep_join (out := o) (u := z) hst)
                 clear hst
                 go_wp2_with fail
                 refine name_calls (fun w7 hw7 => ?_)
                 have hown7 : OwnL w7 w3.heap.size 27 2 Spn.cs (.slice (some ⟨g, 0, none⟩) L co) (o ++ [⟨s.frm, z⟩]) := by rw [hw7]; exact own_last hown5 (by omega) rfl
                 have hb37 : Below w3.heap.size w3 w7 := by rw [hw7]; exact hb35.setCell hgb _
                 clear hw7
                 rw [← HM1.out] at hown7
                 have hBn := below_up hB3 hB3.size hb37
                 refine (next_any a b A B c d z _ (ha.up hBn) (hb.up hBn) hla hlb HOK.out (by omega)).mono ?_
                 rintro e w8 ⟨⟨z2, rfl, hz2⟩, hb8⟩
                 have HZ2 := Lib.hid hz2
                 clear hz2
                 have hb38 := below_up hb37 (hb37).size hb8
                 go_wp2_with fail
                 go_roundw
                 case rel => exact ⟨mstep (o ++ [s]) t z, z, z2, rfl, rfl, (hown7).below hb8, HCV, HZ2, by omega, by have := HAB.out; have := HML.out; omega, hb38⟩
                 case measure => simpa [intOf] using HAB.out
               · have hsb : (s.til == t) = false := by simpa using hst
                 have HM1 := Lib.hid (mstep_new (out := o) (u := z) hst)
                 clear hst
                 go_wp2_with (at_builtin; go_loud (refine wpList_push _ rfl (.tmp 79) (.tmp 83) 23 27 rfl w3.heap.size 2 16 Spn.cs elemSpn spn_len spn_one _ (o ++ [s]) rfl (hown5.alloc _) _ 1 ⟨t, z⟩ rfl (news_at _ _ _ rfl (by simp)) (by rw [HL.out]; omega) (by first | omega | (simp; done) | (simp; omega)) (by first | omega | (simp; done) | (simp; omega)) ?_); intro v7 w7 hown7 hgrow7)
                 have hb37 : Below w3.heap.size w3 w7 := below_push (hb35.alloc hb35.size _) (hown5.alloc _) hgrow7 (by simp; omega)
                 rw [← HM1.out] at hown7
                 have hBn := below_up hB3 hB3.size hb37
                 refine (next_any a b A B c d z _ (ha.up hBn) (hb.up hBn) hla hlb HOK.out (by omega)).mono ?_
                 rintro e w8 ⟨⟨z2, rfl, hz2⟩, hb8⟩
                 have HZ2 := Lib.hid hz2
                 clear hz2
                 have hb38 := below_up hb37 (hb37).size hb8
                 go_wp2_with fail
                 go_roundw
                 case rel => exact ⟨mstep (o ++ [s]) t z, z, z2, rfl, rfl, (hown7).below hb8, HCV, HZ2, by omega, by have := HAB.out; have := HML.out; omega, hb38⟩
                 case measure => simpa [intOf] using HAB.out
             )
    · have hzd : decide (0 < z) = false := by simpa using hz
      have hz' : z ≤ 0 := by omega
      have hnone := isNext_none hnx.out t0 hz
      have HEND : Hid (IsComb fU a b out) := Lib.hid (cinv_end hcv.out rfl t1 fun n hn => ⟨has_no.2 fun s hs => .inr (by have := hnone s (by simp [hs]); omega), has_no.2 fun s hs => .inr (by have := hnone s (by simp [hs]); omega)⟩)
      clear hnone
      obtain ⟨Ao, co, rfl, hco, hcm, hso⟩ := hown.sl spn_len
      have hol : (out.length : Int) ≤ 1000 := by omega
      have hol2 : out.length ≤ 2 * (a.length + b.length) := by omega
      go_wp2_with fail
      go_ret2
      exact ⟨⟨out, Ao, ⟨co, rfl⟩, hso, HEND.out, hol2⟩, hB⟩
theorem rcomb_m (a b : List Spn) (A B : Option Addr) (c d : Nat) (w : World) (ha : SlSpn w A a) (hb : SlSpn w B b) (hva : setOk a = true) (hvb : setOk b = true) (hlen : 2 * (a.length + b.length) ≤ 1000) :
    Calls Try.prog 49 #[.slice A a.length c, .slice B b.length d, .int .i64 2] w fun e w' => (∃ r A' c', e = .returned (.tuple #[.slice A' r.length c', .int .i64 0]) ∧ SlSpn w' A' r ∧ IsComb fM a b r ∧ r.length ≤ 2 * (a.length + b.length)) ∧ Below w.heap.size w w' := by
  have HOK : Hid (∀ s ∈ a ++ b, s.ok = true) := Lib.hid fun s hs => by
    rcases List.mem_append.1 hs with hs | hs
    · exact (setOk_iff.1 hva).1 s hs
    · exact (setOk_iff.1 hvb).1 s hs
  have hla : a.length ≤ 1000 := by omega
  have hlb : b.length ≤ 1000 := by omega
  have hla' : a.length ≤ 140737488355328 := by omega
  have hlb' : b.length ≤ 140737488355328 := by omega
  go_enter Try.func49, Try.ntmps49
  go_wp2_with fail
  refine (rvalid_any a A c _ ha hla').mono ?_
  rintro e w1 ⟨rfl, hb1⟩; have hz1 := hb1.size; (try simp only [World.size_alloc, World.size_setCell, World.size_drew, size_drewN', size_grow, size_redrawn] at hz1); obtain ⟨hc1, hf1⟩ := bcellB (B := w.heap.size) hb1 (by first | omega | (simp only [World.size_alloc, World.size_setCell, World.size_drew, size_drewN', size_grow, size_redrawn]; omega))
  rw [hva]
  go_wp2_with fail
  refine (rvalid_any b B d _ (hb.up hb1) hlb').mono ?_
  rintro e w2 ⟨rfl, hb2⟩; have hz2 := hb2.size; (try simp only [World.size_alloc, World.size_setCell, World.size_drew, size_drewN', size_grow, size_redrawn] at hz2); obtain ⟨hc2, hf2⟩ := bcellB (B := w.heap.size) hb2 (by first | omega | (simp only [World.size_alloc, World.size_setCell, World.size_drew, size_drewN', size_grow, size_redrawn]; omega))
  rw [hvb]
  have hB2 := below_up hb1 hz1 hb2
  go_wp2_with fail
  refine (next_any a b A B c d 0 _ (ha.up hB2) (hb.up hB2) hla hlb HOK.out (by omega)).mono ?_
  rintro e w3 ⟨⟨z0, rfl, hz0⟩, hb3⟩
  have hB3 := below_up hB2 hB2.size hb3
  have HZ0 := Lib.hid hz0
  clear hz0
  go_wp2_with fail
  go_loopw [10, 11, 12] (fun ov tv zv wr => ∃ (out : List Spn) (t z : Int), tv = .int .i64 t ∧ zv = .int .i64 z ∧ OwnL wr w3.heap.size 27 2 Spn.cs ov out ∧ Hid (CInv fM a b out t) ∧ Hid (IsNext (a ++ b) t z) ∧ (0 ≤ t ∧ t ≤ 1000000000) ∧ out.length + above (ptsOf (a ++ b)) t ≤ 2 * (a.length + b.length) ∧ Below w3.heap.size w3 wr) (fun _ tv _ _ => above (ptsOf (a ++ b)) (intOf tv))
  case atStart =>
    refine ⟨[], 0, z0, rfl, rfl, OwnL.nil_, Lib.hid (cinv_start rfl (fun s hs => (Spn.ok_iff.1 (HOK.out s (by simp [hs]))).1) (fun s hs => (Spn.ok_iff.1 (HOK.out s (by simp [hs]))).1)), HZ0, by omega, ?_, Below.refl _ _⟩
    have := above_le (ptsOf (a ++ b)) 0
    rw [ptsOf_len, List.length_append] at this
    simpa using this
  case round =>
    obtain ⟨out, t, z, rfl, rfl, hown, hcv, hnx, ⟨t0, t1⟩, hcnt, hbw⟩ := hrel
    have hbz := hbw.size
    have hB := below_up hB3 hB3.size hbw
    have hBz := hB.size
    by_cases hz : 0 < z
    · have hzd : decide (0 < z) = true := by simpa using hz
      obtain ⟨n1, n2, n3⟩ := isNext_pos hnx.out hz
      have hmem : z ∈ ptsOf (a ++ b) := by
        obtain ⟨s, hs, h | h⟩ := n2
        · rw [h]; exact (mem_pts hs).1
        · rw [h]; exact (mem_pts hs).2
      have hz9 : z ≤ 1000000000 := by
        obtain ⟨s, hs, h⟩ := n2
        have := Spn.ok_iff.1 (HOK.out s hs)
        omega
      have HAB := Lib.hid (above_lt n1 hmem)
      have HCA : Hid (∀ n, t ≤ n → n < z → has a n = has a t ∧ has b n = has b t) := Lib.hid fun n h1 h2 => ⟨has_const (fun s hs => n3 s (by simp [hs])) h1 h2, has_const (fun s hs => n3 s (by simp [hs])) h1 h2⟩
      clear n2 n3 hmem
      obtain ⟨Ao, co, rfl, hco, hcm, hso⟩ := hown.sl spn_len
      have hol : out.length ≤ 1000 := by omega
      have hoi : (out.length : Int) ≤ 1000 := by omega
      go_wp2_with fail
      refine (has_any a A c t _ (ha.up hB) hla').mono ?_
      rintro e w4 ⟨rfl, hb4⟩; have hz4 := hb4.size; (try simp only [World.size_alloc, World.size_setCell, World.size_drew, size_drewN', size_grow, size_redrawn] at hz4); obtain ⟨hc4, hf4⟩ := bcellB (B := w.heap.size) hb4 (by first | omega | (simp only [World.size_alloc, World.size_setCell, World.size_drew, size_drewN', size_grow, size_redrawn]; omega))
      have hB4 := below_up hB hB.size hb4
      have hB4z := hB4.size
      go_wp2_with fail
      refine (has_any b B d t _ (hb.up hB4) hlb').mono ?_
      rintro e w5 ⟨rfl, hb5⟩; have hz5 := hb5.size; (try simp only [World.size_alloc, World.size_setCell, World.size_drew, size_drewN', size_grow, size_redrawn] at hz5); obtain ⟨hc5, hf5⟩ := bcellB (B := w.heap.size) hb5 (by first | omega | (simp only [World.size_alloc, World.size_setCell, World.size_drew, size_drewN', size_grow, size_redrawn]; omega))
      have hB5 := below_up hB4 hB4.size hb5
      have hb35 : Below w3.heap.size w3 w5 := below_up (below_up hbw hbz hb4) (by omega) hb5
      have hown5 := hown.below (below_up hb4 hz4 hb5)
      cases hp : has a t <;> cases hq : has b t
      all_goals
        first
          | (have hin : fM (has a t) (has b t) = false := by rw [hp, hq]; rfl
             have HCV : Hid (CInv fM a b out z) := Lib.hid (cinv_skip hcv.out n1 fun n h1 h2 => by rw [(HCA.out n h1 h2).1, (HCA.out n h1 h2).2]; exact hin)
             have hlw : IntKind.i64.wrap ((out.length : Int) - 1) = (out.length : Int) - 1 := IntWalk.i64_in _ (by omega)
             clear hin
             go_wp2_with fail
             refine (next_any a b A B c d z _ (ha.up hB5) (hb.up hB5) hla hlb HOK.out (by omega)).mono ?_
             rintro e w6 ⟨⟨z2, rfl, hz2⟩, hb6⟩
             have HZ2 := Lib.hid hz2
             clear hz2
             have hb36 := below_up hb35 hb35.size hb6
             go_wp2_with fail
             go_roundw
             case rel => exact ⟨out, z, z2, rfl, rfl, hown5.below hb6, HCV, HZ2, by omega, by have := HAB.out; omega, hb36⟩
             case measure => simpa [intOf] using HAB.out)
          | (have hin : fM (has a t) (has b t) = true := by rw [hp, hq]; rfl
             have HCV : Hid (CInv fM a b (mstep out t z) z) := Lib.hid (cinv_step hcv.out t0 n1 fun n h1 h2 => by rw [(HCA.out n h1 h2).1, (HCA.out n h1 h2).2]; exact hin)
             have HML := Lib.hid (mstep_len out t z)
             clear hin
             rcases split_last out with hno | ⟨o, s, hno⟩
             · subst hno
               have HM1 : Hid (mstep [] t z = [⟨t, z⟩]) := Lib.hid rfl
               have hown5' : OwnL w5 w3.heap.size 27 2 Spn.cs (.slice Ao 0 co) [] := hown5
               have hlw : IntKind.i64.wrap (-1) = -1 := by decide
               go_wp2_with (at_builtin; go_loud (refine wpList_push _ rfl (.tmp 79) (.tmp 83) 23 27 rfl w3.heap.size 2 16 Spn.cs elemSpn spn_len spn_one _ [] rfl (hown5'.alloc _) _ 1 ⟨t, z⟩ rfl (news_at _ _ _ rfl (by simp)) (by first | omega | (simp; done) | (simp; omega)) (by first | omega | (simp; done) | (simp; omega)) (by first | omega | (simp; done) | (simp; omega)) ?_); intro v7 w7 hown7 hgrow7)
               have hb37 : Below w3.heap.size w3 w7 := below_push (hb35.alloc hb35.size _) (hown5'.alloc _) hgrow7 (by simp; omega)
               rw [List.nil_append, ← HM1.out] at hown7
               have hBn := below_up hB3 hB3.size hb37
               refine (next_any a b A B c d z _ (ha.up hBn) (hb.up hBn) hla hlb HOK.out (by omega)).mono ?_
               rintro e w8 ⟨⟨z2, rfl, hz2⟩, hb8⟩
               have HZ2 := Lib.hid hz2
               clear hz2
               have hb38 := below_up hb37 (hb37).size hb8
               go_wp2_with fail
               go_roundw
               case rel => exact ⟨mstep [] t z, z, z2, rfl, rfl, (hown7).below hb8, HCV, HZ2, by omega, by have := HAB.out; have := HML.out; omega, hb38⟩
               case measure => simpa [intOf] using HAB.out
             · subst hno
               obtain ⟨g, cap, hv, hgb, hgl, hcap, hsl, hfz⟩ := own_open spn_len hown5 (by simp)
               injection hv with hv1 hv2 hv3
               subst hv1 hv3
               have q1 := (hsl.cells (k := o.length) (by simp)).2 1 (.int .i64 s.til) (by simp [Spn.cs])
               rw [Nat.zero_add] at q1
               have f1 := hfz (o.length * 2 + 1)
               generalize hL : (o ++ [s]).length = L at *
               have hL' : L = o.length + 1 := by rw [← hL, List.length_append]; rfl
               have HL := Lib.hid hL
               clear hL
               have hw1 : IntKind.i64.wrap ((L : Int) - 1) = (o.length : Int) := by rw [IntWalk.i64_in _ (by omega)]; omega
               have hx1 : (0 : Int) ≤ (o.length : Int) := by omega
               have hx2 : (o.length : Int) < (L : Int) := by omega
               have hx3 : o.length < L := by omega
               have HL' := Lib.hid hL'
               clear hL'
               by_cases hst : s.til = t
               · have hsb : (s.til == t) = true := by simpa using hst
                 have HM1 := Lib.hid (mstep_join (out := o) (u := z) hst)
                 clear hst
                 go_wp2_with fail
                 refine name_calls (fun w7 hw7 => ?_)
                 have hown7 : OwnL w7 w3.heap.size 27 2 Spn.cs (.slice (some ⟨g, 0, none⟩) L co) (o ++ [⟨s.frm, z⟩]) := by rw [hw7]; exact own_last hown5 (by omega) rfl
                 have hb37 : Below w3.heap.size w3 w7 := by rw [hw7]; exact hb35.setCell hgb _
                 clear hw7
                 rw [← HM1.out] at hown7
                 have hBn := below_up hB3 hB3.size hb37
                 refine (next_any a b A B c d z _ (ha.up hBn) (hb.up hBn) hla hlb HOK.out (by omega)).mono ?_
                 rintro e w8 ⟨⟨z2, rfl, hz2⟩, hb8⟩
                 have HZ2 := Lib.hid hz2
                 clear hz2
                 have hb38 := below_up hb37 (hb37).size hb8
                 go_wp2_with fail
                 go_roundw
                 case rel => exact ⟨mstep (o ++ [s]) t z, z, z2, rfl, rfl, (hown7).below hb8, HCV, HZ2, by omega, by have := HAB.out; have := HML.out; omega, hb38⟩
                 case measure => simpa [intOf] using HAB.out
               · have hsb : (s.til == t) = false := by simpa using hst
                 have HM1 := Lib.hid (mstep_new (out := o) (u := z) hst)
                 clear hst
                 go_wp2_with (at_builtin; go_loud (refine wpList_push _ rfl (.tmp 79) (.tmp 83) 23 27 rfl w3.heap.size 2 16 Spn.cs elemSpn spn_len spn_one _ (o ++ [s]) rfl (hown5.alloc _) _ 1 ⟨t, z⟩ rfl (news_at _ _ _ rfl (by simp)) (by rw [HL.out]; omega) (by first | omega | (simp; done) | (simp; omega)) (by first | omega | (simp; done) | (simp; omega)) ?_); intro v7 w7 hown7 hgrow7)
                 have hb37 : Below w3.heap.size w3 w7 := below_push (hb35.alloc hb35.size _) (hown5.alloc _) hgrow7 (by simp; omega)
                 rw [← HM1.out] at hown7
                 have hBn := below_up hB3 hB3.size hb37
                 refine (next_any a b A B c d z _ (ha.up hBn) (hb.up hBn) hla hlb HOK.out (by omega)).mono ?_
                 rintro e w8 ⟨⟨z2, rfl, hz2⟩, hb8⟩
                 have HZ2 := Lib.hid hz2
                 clear hz2
                 have hb38 := below_up hb37 (hb37).size hb8
                 go_wp2_with fail
                 go_roundw
                 case rel => exact ⟨mstep (o ++ [s]) t z, z, z2, rfl, rfl, (hown7).below hb8, HCV, HZ2, by omega, by have := HAB.out; have := HML.out; omega, hb38⟩
                 case measure => simpa [intOf] using HAB.out
             )
    · have hzd : decide (0 < z) = false := by simpa using hz
      have hz' : z ≤ 0 := by omega
      have hnone := isNext_none hnx.out t0 hz
      have HEND : Hid (IsComb fM a b out) := Lib.hid (cinv_end hcv.out rfl t1 fun n hn => ⟨has_no.2 fun s hs => .inr (by have := hnone s (by simp [hs]); omega), has_no.2 fun s hs => .inr (by have := hnone s (by simp [hs]); omega)⟩)
      clear hnone
      obtain ⟨Ao, co, rfl, hco, hcm, hso⟩ := hown.sl spn_len
      have hol : (out.length : Int) ≤ 1000 := by omega
      have hol2 : out.length ≤ 2 * (a.length + b.length) := by omega
      go_wp2_with fail
      go_ret2
      exact ⟨⟨out, Ao, ⟨co, rfl⟩, hso, HEND.out, hol2⟩, hB⟩
theorem rcomb_l (a b : List Spn) (A B : Option Addr) (c d : Nat) (w : World) (ha : SlSpn w A a) (hb : SlSpn w B b) (hva : setOk a = true) (hvb : setOk b = true) (hlen : 2 * (a.length + b.length) ≤ 1000) :
    Calls Try.prog 49 #[.slice A a.length c, .slice B b.length d, .int .i64 3] w fun e w' => (∃ r A' c', e = .returned (.tuple #[.slice A' r.length c', .int .i64 0]) ∧ SlSpn w' A' r ∧ IsComb fL a b r ∧ r.length ≤ 2 * (a.length + b.length)) ∧ Below w.heap.size w w' := by
  have HOK : Hid (∀ s ∈ a ++ b, s.ok = true) := Lib.hid fun s hs => by
    rcases List.mem_append.1 hs with hs | hs
    · exact (setOk_iff.1 hva).1 s hs
    · exact (setOk_iff.1 hvb).1 s hs
  have hla : a.length ≤ 1000 := by omega
  have hlb : b.length ≤ 1000 := by omega
  have hla' : a.length ≤ 140737488355328 := by omega
  have hlb' : b.length ≤ 140737488355328 := by omega
  go_enter Try.func49, Try.ntmps49
  go_wp2_with fail
  refine (rvalid_any a A c _ ha hla').mono ?_
  rintro e w1 ⟨rfl, hb1⟩; have hz1 := hb1.size; (try simp only [World.size_alloc, World.size_setCell, World.size_drew, size_drewN', size_grow, size_redrawn] at hz1); obtain ⟨hc1, hf1⟩ := bcellB (B := w.heap.size) hb1 (by first | omega | (simp only [World.size_alloc, World.size_setCell, World.size_drew, size_drewN', size_grow, size_redrawn]; omega))
  rw [hva]
  go_wp2_with fail
  refine (rvalid_any b B d _ (hb.up hb1) hlb').mono ?_
  rintro e w2 ⟨rfl, hb2⟩; have hz2 := hb2.size; (try simp only [World.size_alloc, World.size_setCell, World.size_drew, size_drewN', size_grow, size_redrawn] at hz2); obtain ⟨hc2, hf2⟩ := bcellB (B := w.heap.size) hb2 (by first | omega | (simp only [World.size_alloc, World.size_setCell, World.size_drew, size_drewN', size_grow, size_redrawn]; omega))
  rw [hvb]
  have hB2 := below_up hb1 hz1 hb2
  go_wp2_with fail
  refine (next_any a b A B c d 0 _ (ha.up hB2) (hb.up hB2) hla hlb HOK.out (by omega)).mono ?_
  rintro e w3 ⟨⟨z0, rfl, hz0⟩, hb3⟩
  have hB3 := below_up hB2 hB2.size hb3
  have HZ0 := Lib.hid hz0
  clear hz0
  go_wp2_with fail
  go_loopw [10, 11, 12] (fun ov tv zv wr => ∃ (out : List Spn) (t z : Int), tv = .int .i64 t ∧ zv = .int .i64 z ∧ OwnL wr w3.heap.size 27 2 Spn.cs ov out ∧ Hid (CInv fL a b out t) ∧ Hid (IsNext (a ++ b) t z) ∧ (0 ≤ t ∧ t ≤ 1000000000) ∧ out.length + above (ptsOf (a ++ b)) t ≤ 2 * (a.length + b.length) ∧ Below w3.heap.size w3 wr) (fun _ tv _ _ => above (ptsOf (a ++ b)) (intOf tv))
  case atStart =>
    refine ⟨[], 0, z0, rfl, rfl, OwnL.nil_, Lib.hid (cinv_start rfl (fun s hs => (Spn.ok_iff.1 (HOK.out s (by simp [hs]))).1) (fun s hs => (Spn.ok_iff.1 (HOK.out s (by simp [hs]))).1)), HZ0, by omega, ?_, Below.refl _ _⟩
    have := above_le (ptsOf (a ++ b)) 0
    rw [ptsOf_len, List.length_append] at this
    simpa using this
  case round =>
    obtain ⟨out, t, z, rfl, rfl, hown, hcv, hnx, ⟨t0, t1⟩, hcnt, hbw⟩ := hrel
    have hbz := hbw.size
    have hB := below_up hB3 hB3.size hbw
    have hBz := hB.size
    by_cases hz : 0 < z
    · have hzd : decide (0 < z) = true := by simpa using hz
      obtain ⟨n1, n2, n3⟩ := isNext_pos hnx.out hz
      have hmem : z ∈ ptsOf (a ++ b) := by
        obtain ⟨s, hs, h | h⟩ := n2
        · rw [h]; exact (mem_pts hs).1
        · rw [h]; exact (mem_pts hs).2
      have hz9 : z ≤ 1000000000 := by
        obtain ⟨s, hs, h⟩ := n2
        have := Spn.ok_iff.1 (HOK.out s hs)
        omega
      have HAB := Lib.hid (above_lt n1 hmem)
      have HCA : Hid (∀ n, t ≤ n → n < z → has a n = has a t ∧ has b n = has b t) := Lib.hid fun n h1 h2 => ⟨has_const (fun s hs => n3 s (by simp [hs])) h1 h2, has_const (fun s hs => n3 s (by simp [hs])) h1 h2⟩
      clear n2 n3 hmem
      obtain ⟨Ao, co, rfl, hco, hcm, hso⟩ := hown.sl spn_len
      have hol : out.length ≤ 1000 := by omega
      have hoi : (out.length : Int) ≤ 1000 := by omega
      go_wp2_with fail
      refine (has_any a A c t _ (ha.up hB) hla').mono ?_
      rintro e w4 ⟨rfl, hb4⟩; have hz4 := hb4.size; (try simp only [World.size_alloc, World.size_setCell, World.size_drew, size_drewN', size_grow, size_redrawn] at hz4); obtain ⟨hc4, hf4⟩ := bcellB (B := w.heap.size) hb4 (by first | omega | (simp only [World.size_alloc, World.size_setCell, World.size_drew, size_drewN', size_grow, size_redrawn]; omega))
      have hB4 := below_up hB hB.size hb4
      have hB4z := hB4.size
      go_wp2_with fail
      refine (has_any b B d t _ (hb.up hB4) hlb').mono ?_
      rintro e w5 ⟨rfl, hb5⟩; have hz5 := hb5.size; (try simp only [World.size_alloc, World.size_setCell, World.size_drew, size_drewN', size_grow, size_redrawn] at hz5); obtain ⟨hc5, hf5⟩ := bcellB (B := w.heap.size) hb5 (by first | omega | (simp only [World.size_alloc, World.size_setCell, World.size_drew, size_drewN', size_grow, size_redrawn]; omega))
      have hB5 := below_up hB4 hB4.size hb5
      have hb35 : Below w3.heap.size w3 w5 := below_up (below_up hbw hbz hb4) (by omega) hb5
      have hown5 := hown.below (below_up hb4 hz4 hb5)
      cases hp : has a t <;> cases hq : has b t
      all_goals
        first
          | (have hin : fL (has a t) (has b t) = false := by rw [hp, hq]; rfl
             have HCV : Hid (CInv fL a b out z) := Lib.hid (cinv_skip hcv.out n1 fun n h1 h2 => by rw [(HCA.out n h1 h2).1, (HCA.out n h1 h2).2]; exact hin)
             have hlw : IntKind.i64.wrap ((out.length : Int) - 1) = (out.length : Int) - 1 := IntWalk.i64_in _ (by omega)
             clear hin
             go_wp2_with fail
             refine (next_any a b A B c d z _ (ha.up hB5) (hb.up hB5) hla hlb HOK.out (by omega)).mono ?_
             rintro e w6 ⟨⟨z2, rfl, hz2⟩, hb6⟩
             have HZ2 := Lib.hid hz2
             clear hz2
             have hb36 := below_up hb35 hb35.size hb6
             go_wp2_with fail
             go_roundw
             case rel => exact ⟨out, z, z2, rfl, rfl, hown5.below hb6, HCV, HZ2, by omega, by have := HAB.out; omega, hb36⟩
             case measure => simpa [intOf] using HAB.out)
          | (have hin : fL (has a t) (has b t) = true := by rw [hp, hq]; rfl
             have HCV : Hid (CInv fL a b (mstep out t z) z) := Lib.hid (cinv_step hcv.out t0 n1 fun n h1 h2 => by rw [(HCA.out n h1 h2).1, (HCA.out n h1 h2).2]; exact hin)
             have HML := Lib.hid (mstep_len out t z)
             clear hin
             rcases split_last out with hno | ⟨o, s, hno⟩
             · subst hno
               have HM1 : Hid (mstep [] t z = [⟨t, z⟩]) := Lib.hid rfl
               have hown5' : OwnL w5 w3.heap.size 27 2 Spn.cs (.slice Ao 0 co) [] := hown5
               have hlw : IntKind.i64.wrap (-1) = -1 := by decide
               go_wp2_with (at_builtin; go_loud (refine wpList_push _ rfl (.tmp 79) (.tmp 83) 23 27 rfl w3.heap.size 2 16 Spn.cs elemSpn spn_len spn_one _ [] rfl (hown5'.alloc _) _ 1 ⟨t, z⟩ rfl (news_at _ _ _ rfl (by simp)) (by first | omega | (simp; done) | (simp; omega)) (by first | omega | (simp; done) | (simp; omega)) (by first | omega | (simp; done) | (simp; omega)) ?_); intro v7 w7 hown7 hgrow7)
               have hb37 : Below w3.heap.size w3 w7 := below_push (hb35.alloc hb35.size _) (hown5'.alloc _) hgrow7 (by simp; omega)
               rw [List.nil_append, ← HM1.out] at hown7
               have hBn := below_up hB3 hB3.size hb37
               refine (next_any a b A B c d z _ (ha.up hBn) (hb.up hBn) hla hlb HOK.out (by omega)).mono ?_
               rintro e w8 ⟨⟨z2, rfl, hz2⟩, hb8⟩
               have HZ2 := Lib.hid hz2
               clear hz2
               have hb38 := below_up hb37 (hb37).size hb8
               go_wp2_with fail
               go_roundw
               case rel => exact ⟨mstep [] t z, z, z2, rfl, rfl, (hown7).below hb8, HCV, HZ2, by omega, by have := HAB.out; have := HML.out; omega, hb38⟩
               case measure => simpa [intOf] using HAB.out
             · subst hno
               obtain ⟨g, cap, hv, hgb, hgl, hcap, hsl, hfz⟩ := own_open spn_len hown5 (by simp)
               injection hv with hv1 hv2 hv3
               subst hv1 hv3
               have q1 := (hsl.cells (k := o.length) (by simp)).2 1 (.int .i64 s.til) (by simp [Spn.cs])
               rw [Nat.zero_add] at q1
               have f1 := hfz (o.length * 2 + 1)
               generalize hL : (o ++ [s]).length = L at *
               have hL' : L = o.length + 1 := by rw [← hL, List.length_append]; rfl
               have HL := Lib.hid hL
               clear hL
               have hw1 : IntKind.i64.wrap ((L : Int) - 1) = (o.length : Int) := by rw [IntWalk.i64_in _ (by omega)]; omega
               have hx1 : (0 : Int) ≤ (o.length : Int) := by omega
               have hx2 : (o.length : Int) < (L : Int) := by omega
               have hx3 : o.length < L := by omega
               have HL' := Lib.hid hL'
               clear hL'
               by_cases hst : s.til = t
               · have hsb : (s.til == t) = true := by simpa using hst
                 have HM1 := Lib.hid (mstep_join (out := o) (u := z) hst)
                 clear hst
                 go_wp2_with fail
                 refine name_calls (fun w7 hw7 => ?_)
                 have hown7 : OwnL w7 w3.heap.size 27 2 Spn.cs (.slice (some ⟨g, 0, none⟩) L co) (o ++ [⟨s.frm, z⟩]) := by rw [hw7]; exact own_last hown5 (by omega) rfl
                 have hb37 : Below w3.heap.size w3 w7 := by rw [hw7]; exact hb35.setCell hgb _
                 clear hw7
                 rw [← HM1.out] at hown7
                 have hBn := below_up hB3 hB3.size hb37
                 refine (next_any a b A B c d z _ (ha.up hBn) (hb.up hBn) hla hlb HOK.out (by omega)).mono ?_
                 rintro e w8 ⟨⟨z2, rfl, hz2⟩, hb8⟩
                 have HZ2 := Lib.hid hz2
                 clear hz2
                 have hb38 := below_up hb37 (hb37).size hb8
                 go_wp2_with fail
                 go_roundw
                 case rel => exact ⟨mstep (o ++ [s]) t z, z, z2, rfl, rfl, (hown7).below hb8, HCV, HZ2, by omega, by have := HAB.out; have := HML.out; omega, hb38⟩
                 case measure => simpa [intOf] using HAB.out
               · have hsb : (s.til == t) = false := by simpa using hst
                 have HM1 := Lib.hid (mstep_new (out := o) (u := z) hst)
                 clear hst
                 go_wp2_with (at_builtin; go_loud (refine wpList_push _ rfl (.tmp 79) (.tmp 83) 23 27 rfl w3.heap.size 2 16 Spn.cs elemSpn spn_len spn_one _ (o ++ [s]) rfl (hown5.alloc _) _ 1 ⟨t, z⟩ rfl (news_at _ _ _ rfl (by simp)) (by rw [HL.out]; omega) (by first | omega | (simp; done) | (simp; omega)) (by first | omega | (simp; done) | (simp; omega)) ?_); intro v7 w7 hown7 hgrow7)
                 have hb37 : Below w3.heap.size w3 w7 := below_push (hb35.alloc hb35.size _) (hown5.alloc _) hgrow7 (by simp; omega)
                 rw [← HM1.out] at hown7
                 have hBn := below_up hB3 hB3.size hb37
                 refine (next_any a b A B c d z _ (ha.up hBn) (hb.up hBn) hla hlb HOK.out (by omega)).mono ?_
                 rintro e w8 ⟨⟨z2, rfl, hz2⟩, hb8⟩
                 have HZ2 := Lib.hid hz2
                 clear hz2
                 have hb38 := below_up hb37 (hb37).size hb8
                 go_wp2_with fail
                 go_roundw
                 case rel => exact ⟨mstep (o ++ [s]) t z, z, z2, rfl, rfl, (hown7).below hb8, HCV, HZ2, by omega, by have := HAB.out; have := HML.out; omega, hb38⟩
                 case measure => simpa [intOf] using HAB.out
             )
    · have hzd : decide (0 < z) = false := by simpa using hz
      have hz' : z ≤ 0 := by omega
      have hnone := isNext_none hnx.out t0 hz
      have HEND : Hid (IsComb fL a b out) := Lib.hid (cinv_end hcv.out rfl t1 fun n hn => ⟨has_no.2 fun s hs => .inr (by have := hnone s (by simp [hs]); omega), has_no.2 fun s hs => .inr (by have := hnone s (by simp [hs]); omega)⟩)
      clear hnone
      obtain ⟨Ao, co, rfl, hco, hcm, hso⟩ := hown.sl spn_len
      have hol : (out.length : Int) ≤ 1000 := by omega
      have hol2 : out.length ≤ 2 * (a.length + b.length) := by omega
      go_wp2_with fail
      go_ret2
      exact ⟨⟨out, Ao, ⟨co, rfl⟩, hso, HEND.out, hol2⟩, hB⟩
theorem rcomb_bad (a b : List Spn) (A B : Option Addr) (c d : Nat) (k : Int) (w : World) (ha : SlSpn w A a) (hb : SlSpn w B b) (hla : a.length ≤ 140737488355328) (hlb : b.length ≤ 140737488355328) (h : (setOk a && setOk b) = false) :
    Calls Try.prog 49 #[.slice A a.length c, .slice B b.length d, .int .i64 k] w fun e w' => e = .returned (.tuple #[.slice none 0 0, .int .i64 1]) ∧ Below w.heap.size w w' := by
  cases hva : setOk a <;> cases hvb : setOk b
  case true.true => rw [hva, hvb] at h; cases h
  all_goals
    clear h
    go_enter Try.func49, Try.ntmps49
    go_wp2_with fail
    refine (rvalid_any a A c _ ha hla).mono ?_
    rintro e w1 ⟨rfl, hb1⟩; have hz1 := hb1.size; (try simp only [World.size_alloc, World.size_setCell, World.size_drew, size_drewN', size_grow, size_redrawn] at hz1); obtain ⟨hc1, hf1⟩ := bcellB (B := w.heap.size) hb1 (by first | omega | (simp only [World.size_alloc, World.size_setCell, World.size_drew, size_drewN', size_grow, size_redrawn]; omega))
    rw [hva]
    go_wp2_with fail
    refine (rvalid_any b B d _ (hb.up hb1) hlb).mono ?_
    rintro e w2 ⟨rfl, hb2⟩; have hz2 := hb2.size; (try simp only [World.size_alloc, World.size_setCell, World.size_drew, size_drewN', size_grow, size_redrawn] at hz2); obtain ⟨hc2, hf2⟩ := bcellB (B := w.heap.size) hb2 (by first | omega | (simp only [World.size_alloc, World.size_setCell, World.size_drew, size_drewN', size_grow, size_redrawn]; omega))
    rw [hvb]
    go_wp2_with fail
    go_ret2
    exact ⟨rfl, below_up hb1 hz1 hb2⟩
end Go.Proofs.Ytphapnooonjnmaa
