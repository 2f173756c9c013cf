/-
  Contract of package ledger: the sums of all accounts up to a day.
-/
import Derived.Test.YthnncojbckifnaaLed6
namespace Go.Proofs.Ythnncojbckifnaa
set_option linter.unusedSimpArgs false
set_option linter.unusedVariables false
open Go.RowKit Go.Maps Go.Shelf
open Go.Sort (grow size_grow)

set_option maxHeartbeats 4000000
set_option maxRecDepth 100000
attribute [local go_sem] Oper.semAt_some

/-- What the map of all sums holds. -/
structure SumOf (D : DM) (es : List Entry) : Prop where
  tidy : Tidy D
  ints : Ints D
  all : ∀ q : Int → Bool, msum (onI q) D = mvs q es
  at_ : ∀ a, getI D a = mvs (fun x => x == a) es
  keys : ∀ a, Maps.has D (kI a) = true → 100 ≤ a ∧ a ≤ 999
theorem sumOf_empty : SumOf (.map []) [] := ⟨tidy_empty, ints_empty, fun _ => rfl, fun _ => rfl, fun a h => by cases h⟩
theorem mvs_snoc (p : Int → Bool) (es : List Entry) (e : Entry) : mvs p (es ++ [e]) = mvs p es + mv p e := by rw [mvs_append, mvs_cons, mvs_nil]; omega
theorem SumOf.step {D : DM} {es : List Entry} {e : Entry} (h : SumOf D es) (he : e.ok = true) {c1 c2 : Int} (h1 : getI D e.debit = c1) (h2 : getI (putI D e.debit (c1 + e.cents)) e.credit = c2) :
    SumOf (putI (putI D e.debit (c1 + e.cents)) e.credit (c2 - e.cents)) (es ++ [e]) := by
  have ht := putI_tidy h.tidy e.debit (c1 + e.cents)
  obtain ⟨_, k1, k2, hne, _⟩ := Entry.ok_iff.1 he
  refine ⟨putI_tidy ht _ _, (h.ints.put _ _).put _ _, fun q => ?_, fun a => ?_, fun a ha => ?_⟩
  · rw [msum_put ht, msum_put h.tidy, h.all, mvs_snoc, h1, h2]
    unfold mv
    have e1 : onI q (kI e.debit) = q e.debit := rfl
    have e2 : onI q (kI e.credit) = q e.credit := rfl
    rw [e1, e2]
    split <;> split <;> omega
  · rw [mvs_snoc]
    unfold mv
    by_cases ha : a = e.credit
    · subst ha
      rw [getI_same ht, if_neg (by simpa using hne), if_pos (by simp)]
      rw [getI_other (Ne.symm hne), h.at_] at h2
      omega
    · rw [getI_other ha]
      have hc : (e.credit == a) = false := by rw [beq_eq_false_iff_ne]; exact fun e' => ha e'.symm
      simp only [hc]
      by_cases hb : a = e.debit
      · subst hb
        rw [getI_same h.tidy, ← h1, h.at_]
        first | (simp; done) | (simp; omega)
      · have hd : (e.debit == a) = false := by rw [beq_eq_false_iff_ne]; exact fun e' => hb e'.symm
        rw [getI_other hb, h.at_]
        simp only [hd]
        first | (simp; done) | (simp; omega)
  · by_cases hb : a = e.credit
    · subst hb; exact k2
    · by_cases hc : a = e.debit
      · subst hc; exact k1
      · unfold putI at ha
        rw [has_put_other (kI_ne hb), has_put_other (kI_ne hc)] at ha
        exact h.keys a ha
theorem SumOf.second {D : DM} {es : List Entry} {e : Entry} (h : SumOf D es) (hne : e.debit ≠ e.credit) (c : Int) : getI (putI D e.debit c) e.credit = mvs (fun x => x == e.credit) es := by
  rw [getI_other (Ne.symm hne), h.at_]

structure SumI (w : World) (pre : List EOk) (W : World) : Prop where
  out : ∃ D : DM, W.ownsMap Try.prog 3 (plainElem Try.prog 3) w.heap.size (2 * pre.length) D ∧ SumOf D (pre.map (·.1))
  box : W.cell? ⟨w.heap.size + 1, 0, none⟩ = some (.map (some w.heap.size))
  size : w.heap.size + 1 + 1 + 1 + 1 ≤ W.heap.size
  below : Below w.heap.size w W
theorem sumI_own {w : World} {B : Nat} (hB : w.heap.size + 1 ≤ B) : OwnFrom B (SumI w) := fun s W W' row h hg hr => by
  have hr' : ∀ r, row = some r → ∃ o : Obj, W.heap[r]? = some o ∧ o.isCells = false := fun r e => (hr r e).2
  obtain ⟨D, hD, hS⟩ := h.out
  refine ⟨⟨D, hD.kept hg (fun e => ?_), hS⟩, cell_kept h.box hg hr', size_keptN h.size hg, h.below.grown hg h.below.size (fun k e => by have := (hr k e).1; omega)⟩
  have := (hr _ e.symm).1
  omega
theorem until_stops (n : Nat) (hn : 1 ≤ n) (B1 B2 : Nat) (X : Nat → Prop) (L : List EOk) (D : Int) (A : Option Addr) (c : Nat) (w0 : World)
    (hX1 : X B1) (hX2 : X B2) (hXA : L ≠ [] → ∀ bk off, A = some ⟨bk, off, none⟩ → X bk) (hXs : ∀ k, X k → k < w0.heap.size)
    (c1 : w0.cell? ⟨B1, 0, none⟩ = some (.slice A L.length c)) (c2 : w0.cell? ⟨B2, 0, none⟩ = some (.int .i64 D))
    (hs : Sl w0 w0.heap.size 5 Entry.cs A (L.map (·.1))) (hl : L.length ≤ 140737488355328) :
    SeqStopsK Fence.wide n Try.prog 104 #[.pointer (some ⟨B1, 0, none⟩), .pointer (some ⟨B2, 0, none⟩)] (fun x : EOk => #[x.1.v]) (fun P Q => KeepOn X P Q ∧ P.heap.size ≤ Q.heap.size)
      (fun xs => xs = L.takeWhile (fun e => decide (e.1.day ≤ D))) (fun pre => pre <+: L) L.length w0 := fun l J Jx W hW hJ _ hY h0 =>
  until1_in n hn l B1 B2 X L D A c J Jx W hX1 hX2 hXA (fun k hk => Nat.lt_of_lt_of_le (hXs k hk) hW.size) hJ
    (fun pre x W1 h1 h2 => (hY pre x W1 h1 h2).mono fun e W' h => h)
    ((hW.cell (p := ⟨B1, 0, none⟩) (hXs _ hX1)).trans c1) ((hW.cell (p := ⟨B2, 0, none⟩) (hXs _ hX2)).trans c2)
    ((hs.below hW).more hW.size) hl h0
theorem zero_int (w : World) : (zeroValue 3).run Try.prog w = .ok (.int .i64 0) w := by kernel_rfl
theorem keyedI : Keyed Try.prog 3 := int_keyed Try.underlying3

theorem sums_any (L : List EOk) (A : Option Addr) (c : Nat) (day : Int) (w : World) (hs : SlEnt w A (L.map (·.1))) (hl : L.length ≤ 5000) :
    Calls Try.prog 66 #[.slice A L.length c, .int .i64 day] w fun e w' => (∃ b N D, e = .returned (.map (some b)) ∧ w'.ownsMap Try.prog 3 (plainElem Try.prog 3) b N D ∧ N ≤ 10000 ∧ SumOf D ((L.takeWhile (fun e => decide (e.1.day ≤ day))).map (·.1))) ∧ Below w.heap.size w w' := by
  have hmm := @run_makeMap Try.prog
  refine (callsIn_wide (n := 9)).1 ?_
  refine callsIn_of_wp_marks Try.func66 rfl trivial ?_ rfl
  simp only [Try.ntmps66, List.size_toArray, List.length_cons, List.length_nil, Nat.reduceAdd, Nat.reduceSub, Array.replicate_succ, Array.replicate_zero, List.push_toArray, List.append_toArray, List.nil_append, List.cons_append]
  gi_wp2_with (refine ⟨trivial, ?_⟩; gi_at_call 89; refine (callsIn_wide.2 (until_any A L.length c day _)).mono ?_; rintro e w3 ⟨rfl, hw3⟩)
  have hb3 : Below w.heap.size w w3 := by
    rw [hw3]
    repeat' (first
      | (with_reducible exact Below.refl _ _)
      | (with_reducible assumption)
      | (with_reducible refine below_drewN ?_ _)
      | (with_reducible refine Below.drew ?_)
      | (with_reducible refine below_regrown_up _ _ ?_ ?_)
      | (with_reducible refine Below.alloc ?_ ?_ _)
      | (with_reducible refine Below.setCell ?_ ?_ _)
      | (with_reducible refine below_up ?_ ?_ (by assumption))
      | (with_reducible exact Nat.le_refl _)
      | omega
      | (simp; done)
      | (simp; omega))
  have hws : w3.heap.size = w.heap.size + 1 + 1 + 1 + 1 := by rw [hw3]; simp
  have k1 : w3.cell? ⟨w.heap.size + 1, 0, none⟩ = some (.map (some w.heap.size)) := by rw [hw3]; go_simp
  have k2 : w3.cell? ⟨w.heap.size + 1 + 1, 0, none⟩ = some (.slice A L.length c) := by rw [hw3]; go_simp
  have k3 : w3.cell? ⟨w.heap.size + 1 + 1 + 1, 0, none⟩ = some (.int .i64 day) := by rw [hw3]; go_simp
  have k4 : w3.ownsMap Try.prog 3 (plainElem Try.prog 3) w.heap.size 0 (.map [] : DM) := by
    rw [hw3]
    exact (((World.ownsMap_made w Try.prog 3 _).alloc _).alloc _).alloc _
  have h00 : SumI w [] w3 := ⟨⟨_, k4, sumOf_empty⟩, k1, by omega, hb3⟩
  have hXs : ∀ k, (k < w.heap.size ∨ k = w.heap.size + 1 + 1 ∨ k = w.heap.size + 1 + 1 + 1) → k < w3.heap.size := fun k hk => by rcases hk with h | h | h <;> omega
  have hst := until_stops 8 (by omega) (w.heap.size + 1 + 1) (w.heap.size + 1 + 1 + 1) (fun k => k < w.heap.size ∨ k = w.heap.size + 1 + 1 ∨ k = w.heap.size + 1 + 1 + 1) L day A c w3
    (.inr (.inl rfl)) (.inr (.inr rfl)) (fun hne bk off e => by
      obtain ⟨b', off', e', hlt, _⟩ := hs (by rw [ne_eq, List.map_eq_nil_iff]; exact hne)
      rw [e] at e'
      injection e' with e'
      injection e' with e1 e2
      exact .inl (by omega)) hXs k2 k3 (hs.up hb3) (by omega)
  rw [← hw3]
  clear k1 k2 k3 k4
  refine wpIn_rangeFunc_ownH (w := w3) rfl (by omega) (gf := 104) (lb := #[.pointer (some ⟨w.heap.size + 1 + 1, 0, none⟩), .pointer (some ⟨w.heap.size + 1 + 1 + 1, 0, none⟩)]) rfl trivial (enters_of Try.func104 (by kernel_rfl) rfl)
    hst (fun h k => ⟨h.1.trans k.1, Nat.le_trans h.2 k.2⟩) (fun W l o o' h1 h2 h3 h4 => ⟨keepOn_b hXs W l o o' h1 h2 h3 h4, by simp⟩) (Below.refl _ _) (fun _ => rfl)
    (SumI w) (fun _ _ _ => False) (sumI_own (by omega)) (fun _ _ _ _ _ hs _ _ => hs) h00
    (fun x a' W => ∃ Bx, w.heap.size + 1 + 1 + 1 < Bx ∧ (∀ (j : Nat) (u : Value), x.1.cs[j]? = some u → W.cell? ⟨Bx, j, none⟩ = some u) ∧ a' = { tmps := #[Value.slice A L.length c, Value.int IntKind.i64 day, undef, undef, Value.map none, Value.pointer (some { block := w.heap.size + 1, off := 0 }), .pointer (some ⟨Bx, 0, none⟩), Value.map (some w.heap.size), Value.slice A L.length c, Value.int IntKind.i64 day, Value.func (Fn.func 104) #[] #[Value.pointer (some { block := w.heap.size + 1 + 1, off := 0 }), Value.pointer (some { block := w.heap.size + 1 + 1 + 1, off := 0 })], x.1.v, undef, undef, undef, undef, undef, undef, undef, undef, undef, undef, undef, undef, undef, undef, undef], defers := [] })
    (fun x a' _ X Y row hs hg hr => by obtain ⟨Bx, h1, h2, h3⟩ := hs; exact ⟨Bx, h1, fun j u hu => cell_kept (h2 j u hu) hg (fun r e => (hr r e).2), h3⟩)
    ?assign ?body ?done ?stop
  case assign =>
    intro l pre x W K hI hK
    gi_wp2
    refine hK _ _ ((KeepsOthers.alloc _ _).from _) ⟨(KeepOn.refl _ W).alloc (fun k hk => by have := hXs k hk; have := hI.size; omega) _, by simp⟩ ((sumI_own (B := w3.heap.size) (by omega)).alloc _ hI) ⟨W.heap.size, by have := hI.size; omega, news_new _ _ _ _ rfl, rfl⟩
  case body =>
    rintro l' pre x a' W hl' ⟨r, hr⟩ hI ⟨Bx, hBx, hcx, rfl⟩ hlen
    obtain ⟨D, hown, hS⟩ := hI.out
    have box := hI.box
    have hsz := hI.size
    have q1 := hcx 1 _ rfl
    have q2 := hcx 2 _ rfl
    have q3 := hcx 3 _ rfl
    obtain ⟨e, he⟩ := x
    simp only at q1 q2 q3 hcx
    obtain ⟨_, ⟨d1, d2⟩, ⟨e1, e2⟩, hne, ⟨m1, m2⟩, _⟩ := Entry.ok_iff.1 he
    have hpok : ∀ y ∈ pre.map (·.1), y.ok = true := fun y hy => by obtain ⟨z, _, rfl⟩ := List.mem_map.1 hy; exact z.2
    have hb1 := mvs_bd (fun z => z == e.debit) hpok
    have hb2 := mvs_bd (fun z => z == e.credit) hpok
    rw [← hS.at_] at hb1
    rw [List.length_map] at hb1 hb2
    have hl5 : pre.length ≤ 5000 := by omega
    have HB1 := Lib.hid (show -5000000000000 ≤ getI D e.debit ∧ getI D e.debit ≤ 5000000000000 by omega)
    have HB2 := Lib.hid (show -5000000000000 ≤ mvs (fun z => z == e.credit) (pre.map (·.1)) ∧ mvs (fun z => z == e.credit) (pre.map (·.1)) ≤ 5000000000000 by omega)
    have HNE := Lib.hid hne
    have HCX := Lib.hid hcx
    have HS := Lib.hid hS
    clear hb1 hb2 hne hcx hS
    gi_wp2_with (first
      | (gi_at_lookup; go_loud (refine wpListIn_lookup_own_int _ rfl (.tmp 12) (.tmp 14) 86 rfl 3 3 .i64 keyedI Try.underlying86 Try.underlying3 (zero_int _) w.heap.size _ D rfl hown _ _ rfl (keyOf_int_mk Try.underlying3 (WalkArith.wf_i64 (by omega))) ?_); intro c1 hat1 hwc1; have HG1 := Lib.hid (getI_of hat1); clear hat1 hwc1; obtain ⟨v1, v2⟩ : -5000000000000 ≤ c1 ∧ c1 ≤ 5000000000000 := by (rw [← HG1.out]; exact HB1.out))
      | (gi_at_mapUpdate; go_loud (refine wpListIn_mapUpdate_own _ rfl (.tmp 12) (.tmp 14) (.tmp 18) 86 rfl 3 3 keyedI Try.underlying86 _ w.heap.size _ D rfl hown (by unfold maxLen; omega) _ _ _ rfl rfl (keyOf_int_mk Try.underlying3 (WalkArith.wf_i64 (by omega))) _ [] (plainElem_int Try.underlying3 (WalkArith.wf_i64 (by omega))) ?_); intro w4 hown4 hgrow4; have box4 := hgrow4.cell box (by simp); have q24 := hgrow4.cell q2 (by simp; omega); have q34 := hgrow4.cell q3 (by simp; omega))
      | (gi_at_lookup; go_loud (refine wpListIn_lookup_own_int _ rfl (.tmp 19) (.tmp 21) 86 rfl 3 3 .i64 keyedI Try.underlying86 Try.underlying3 (zero_int _) w.heap.size _ _ rfl hown4 _ _ rfl (keyOf_int_mk Try.underlying3 (WalkArith.wf_i64 (by omega))) ?_); intro c2 hat2 hwc2; have HG2 := Lib.hid (getI_of hat2); clear hat2 hwc2; obtain ⟨u1, u2⟩ : -5000000000000 ≤ c2 ∧ c2 ≤ 5000000000000 := by (rw [← HG2.out]; exact (HS.out.second HNE.out (c1 + e.cents)).symm ▸ HB2.out))
      | (gi_at_mapUpdate; go_loud (refine wpListIn_mapUpdate_own _ rfl (.tmp 19) (.tmp 21) (.tmp 25) 86 rfl 3 3 keyedI Try.underlying86 _ w.heap.size _ _ rfl hown4 (by unfold maxLen; omega) _ _ _ rfl rfl (keyOf_int_mk Try.underlying3 (WalkArith.wf_i64 (by omega))) _ [] (plainElem_int Try.underlying3 (WalkArith.wf_i64 (by omega))) ?_); intro w5 hown5 hgrow5))
    have hg45 : W.grownBy w5 (some w.heap.size) := hgrow4.trans hgrow5
    refine ⟨KeepsFrom.of_grownBy hg45 (fun j e => by cases e; omega), ⟨(KeepOn.refl _ W).grown (fun k hk => by have := hXs k hk; omega) hg45 (fun k e => by cases e; omega), hg45.size⟩, ⟨⟨_, ?_, by rw [List.map_append]; exact HS.out.step he HG1.out HG2.out⟩, hgrow5.cell box4 (by simp), Nat.le_trans hsz hg45.size, hI.below.grown hg45 hI.below.size (fun k e => by cases e; omega)⟩⟩
    have e0 : 2 * (pre ++ [(⟨e, he⟩ : EOk)]).length = 2 * pre.length + 1 + 1 := by simp; omega
    rw [e0]
    exact hown5
  case done =>
    rintro D' xs W hD rfl hI hK
    obtain ⟨D, hown, hS⟩ := hI.out
    have box := hI.box
    gi_wp2
    refine ⟨by simp, .inl ⟨_, _, rfl, run_takeDeferred hK, ?_⟩⟩
    refine ⟨_, results_tmp rfl _ _ _, ⟨w.heap.size, _, D, rfl, hown.kept (grownBy_putObj' _ D' (.deferred none)) (fun e => by injection e with e; omega), ?_, hS⟩, ?_⟩
    · have := (List.takeWhile_prefix (p := fun e : EOk => decide (e.1.day ≤ day)) (l := L)).length_le
      omega
    · exact hI.below.trans (belowK_b (w := w) (Nat.le_refl _) _ D' _ _ (by omega) hK rfl rfl)
  case stop =>
    rintro D c pre W _ _ h _
    exact h.elim
end Go.Proofs.Ythnncojbckifnaa
