/-
  Texts, one behind the other: FoW12, FoW13, FoW14, FoW15.
-/
import Derived.Test.YtmlhoojcdidgkaaGreatM23
/-
  Package folio: any step of the course.
-/
namespace Go.Proofs.YtmlhoojcdidgkaaGreat
set_option linter.unusedSimpArgs false
set_option linter.unusedVariables false
open Go.RowKit Go.Maps
open Go.Sort (grow size_grow)


set_option maxHeartbeats 4000000
set_option maxRecDepth 100000
theorem CIn.brk {w w' : World} {gc gm base : Nat} {bl : List Nat} {V : Env} {At : Option Addr} {ct L : Nat} {c : Crs} {ev ev' : Value} (h : CIn w gc gm base bl V At ct L c ev) {es' : List Entry} {day' : Int}
    (hB : Bk w' gc gm base V At ct es' day' ev') (hT : Turn [gc] base ev ev' w w') : CIn w' gc gm base bl V At ct L { c with es := es', day := day' } ev' := by
  refine ⟨hB, h.len, fun i h1 h2 => hT.acc (h.acc i h1 h2) (h.lt _ (List.getElem_mem h2)).1 (by simpa using (h.lt _ (List.getElem_mem h2)).2.1), h.lt, h.nodup, ?_, h.gm_lt, h.low, ?_⟩
  · obtain ⟨n, D, h1, h2⟩ := h.map
    exact ⟨n, D, map_turn h1 hT h.gm_lt.1 (by simpa using h.gm_lt.2.1), h2⟩
  · exact h.ts.below (hT.below (by have := h.low; have := h.bk.lt; omega) (by simpa using h.low))
/-- What is to be known of a course and a deed. -/
structure StepOk (V : Env) (c : Crs) (x : Deed) (n : Nat) : Prop where
  day : c.day = x.day
  len : c.es.length ≤ 3000
  cents : CentsOk c.es
  ac : ∀ a ∈ c.ac, AccOk a n
  n : n ≤ 500
  tl : V.ts.length ≤ 1000000000000
  part : partOk V.p V.d = true
  k0 : 1 ≤ x.kind
  k1 : x.kind ≤ 9
  c2 : x.kind = 2 ∨ x.kind = 8 ∨ x.kind = 7 → 1 ≤ x.cents ∧ x.cents ≤ 1000000000
  c9 : x.kind = 9 → 1 ≤ x.stay ∧ x.stay ≤ 29
  s0 : -9223372036854775808 ≤ x.stay
  s1 : x.stay ≤ 9223372036854775807
def StepR (gc gm base : Nat) (bl : List Nat) (V : Env) (At : Option Addr) (ct L : Nat) (ev : Value) (c : Crs) (x : Deed) (w : World) (e : Ending) (w' : World) : Prop :=
  e = .returned (.int .i64 (erOf (stepD V c x))) ∧ ∃ ev', CIn w' gc gm base bl V At ct L (resOf (stepD V c x) c) ev' ∧ Turn (gc :: bl) base ev ev' w w'
theorem step_broke (gc gm base : Nat) (bl : List Nat) (V : Env) (At : Option Addr) (ct L : Nat) (c : Crs) (ev : Value) (x : Deed) (n : Nat) (w : World) (h : CIn w gc gm base bl V At ct L c ev) (hk : StepOk V c x n) (k9 : x.kind = 9) :
    Calls Tryz.prog 47 #[.pointer (some ⟨gc, 0, none⟩), x.v] w (StepR gc gm base bl V At ct L ev c x w) := by
  have hs := hk.c9 k9
  have hst : stepD V c x = brokeD c x := by unfold stepD; rw [if_pos k9]
  have t9 : (x.kind == 9) = true := by simpa using k9
  have HST := Lib.hid hst
  have HI := Lib.hid h
  have HK := Lib.hid hk
  have le0 := h.bk.le
  clear hst h k9 hk
  go_enter Tryz.func47, Tryz.ntmps47
  go_wp2_with fail
  refine name_calls (fun w1 hw1 => ?_)
  have b1 : Below w.heap.size w w1 := by rw [hw1]; exact (by repeat' (first | (with_reducible exact Below.refl _ _) | (with_reducible assumption) | (with_reducible refine below_drewN ?_ _) | (with_reducible refine Below.drew ?_) | (with_reducible refine below_regrown_up _ _ ?_ ?_) | (with_reducible refine Below.alloc ?_ ?_ _) | (with_reducible refine Below.setCell ?_ ?_ _) | (with_reducible refine below_up ?_ ?_ (by assumption)) | (with_reducible exact Nat.le_refl _) | omega | (simp; done) | (simp; omega)))
  clear hw1
  refine (broke_any gc gm base V At ct c ev x w1 (HI.out.bk.up b1) HK.out.len HK.out.cents hs.1 hs.2).mono ?_
  rintro e w2 ⟨rfl, ev2, hB2, hT2⟩
  have HR : Hid (StepR gc gm base bl V At ct L ev c x w (.returned (.int .i64 (erOf (brokeD c x)))) w2) := Lib.hid (by
    have hT : Turn [gc] base ev ev2 w w2 := ((Turn.refl [gc] base w).up b1 le0).trans hT2
    refine ⟨by rw [HST.out], ev2, ?_, hT.more (by simp)⟩
    rw [HST.out]
    have hd : (resOf (brokeD c x) c).day = c.day ∧ (resOf (brokeD c x) c).ac = c.ac := by
      unfold brokeD
      split <;> exact ⟨rfl, rfl⟩
    have := HI.out.brk (day' := c.day) hB2 hT
    rw [show resOf (brokeD c x) c = { c with es := (resOf (brokeD c x) c).es, day := c.day } by
      cases hq : resOf (brokeD c x) c
      rw [hq] at hd
      simp only at hd ⊢
      rw [hd.1, hd.2]]
    exact this)
  go_wp2_with fail
  go_ret
  exact HR.out
theorem step_none (gc gm base : Nat) (bl : List Nat) (V : Env) (At : Option Addr) (ct L : Nat) (c : Crs) (ev : Value) (x : Deed) (n : Nat) (w : World) (h : CIn w gc gm base bl V At ct L c ev) (hk : StepOk V c x n) (k9 : x.kind ≠ 9) (hi : idxA c.ac x.stay = none) :
    Calls Tryz.prog 47 #[.pointer (some ⟨gc, 0, none⟩), x.v] w (StepR gc gm base bl V At ct L ev c x w) := by
  have hst : stepD V c x = .error 4 := by unfold stepD; rw [if_neg k9, hi]
  have t9 : (x.kind == 9) = false := by rw [beq_eq_false_iff_ne]; exact k9
  have HLK := Lib.hid (fun (W : World) (hb : Below w.heap.size w W) => ((h.up hb).lookup x.stay hk.s0 hk.s1).2 hi)
  have HST := Lib.hid hst
  have HI := Lib.hid h
  have le0 := h.bk.le
  have hgc := h.bk.lt
  have lgc : gc < w.heap.size := by omega
  have q2 : w.cell? ⟨gc, 2, none⟩ = some (.map (some gm)) := h.bk.cell 2
  clear hst h hi hk k9
  go_enter Tryz.func47, Tryz.ntmps47
  go_wp2_with fail
  refine name_world (fun w1 hw1 => ?_)
  have b1 : Below w.heap.size w w1 := by rw [hw1]; exact (by repeat' (first | (with_reducible exact Below.refl _ _) | (with_reducible assumption) | (with_reducible refine below_drewN ?_ _) | (with_reducible refine Below.drew ?_) | (with_reducible refine below_regrown_up _ _ ?_ ?_) | (with_reducible refine Below.alloc ?_ ?_ _) | (with_reducible refine Below.setCell ?_ ?_ _) | (with_reducible refine below_up ?_ ?_ (by assumption)) | (with_reducible exact Nat.le_refl _) | omega | (simp; done) | (simp; omega)))
  have y2 : w1.cell? ⟨w.heap.size, 2, none⟩ = some (.int .i64 x.stay) := by rw [hw1]; go_simp
  have r2 : w1.cell? ⟨gc, 2, none⟩ = some (.map (some gm)) := (b1.cell (p := ⟨gc, 2, none⟩) lgc).trans q2
  have l1 : w.heap.size < w1.heap.size := by rw [hw1]; simp
  have lg1 : gc < w1.heap.size := by omega
  clear hw1 q2
  have hrun : ∀ n, (Instr.lookup 92 (.map (some gm)) (.int .i64 x.stay) true).run Tryz.prog (w1.drewN n) = .ok (.tuple #[.pointer none, .bool false]) (w1.drewN n) := fun n => HLK.out _ (below_drewN b1 n)
  go_quiet (fail)
  go_wp2_with fail
  go_ret
  refine ⟨by rw [HST.out]; rfl, ev, ?_, (Turn.refl _ _ _).up (below_drewN b1 _) le0⟩
  rw [HST.out]
  exact HI.out.up (below_drewN b1 _)
theorem step_any (gc gm base : Nat) (bl : List Nat) (V : Env) (At : Option Addr) (ct L : Nat) (c : Crs) (ev : Value) (x : Deed) (n : Nat) (w : World) (h : CIn w gc gm base bl V At ct L c ev) (hk : StepOk V c x n) :
    Calls Tryz.prog 47 #[.pointer (some ⟨gc, 0, none⟩), x.v] w (StepR gc gm base bl V At ct L ev c x w) := by
  by_cases k9 : x.kind = 9
  · exact step_broke gc gm base bl V At ct L c ev x n w h hk k9
  cases hi : idxA c.ac x.stay with
  | none => exact step_none gc gm base bl V At ct L c ev x n w h hk k9 hi
  | some i =>
    obtain ⟨hlt, hs⟩ := idx_at hi
    have hlt' : i < bl.length := by rw [h.len]; exact hlt
    have hk1 := hk.k1
    have key : Calls Tryz.prog 47 #[.pointer (some ⟨gc, 0, none⟩), x.v] w (Stepped gc gm base V At ct ev bl[i]? c.es c.ac[i] x w) := by
      by_cases hfr : x.kind = 1 ∨ x.kind = 4
      · exact step_free gc gm base bl V At ct L c ev x n i w h hlt hlt' hs hk.day hk.len (hk.ac _ (List.getElem_mem hlt)) hk.n hk.cents hk.tl hk.part hk.k0 (by omega) hfr hk.c2
      · exact step_deed gc gm base bl V At ct L c ev x n i w h hlt hlt' hs hk.day hk.len (hk.ac _ (List.getElem_mem hlt)) hk.n hk.cents hk.tl hk.part hk.k0 (by omega) (by omega) hk.c2
    refine key.mono fun e w' hS => ?_
    obtain ⟨g, hg, hS⟩ := hS
    rw [List.getElem?_eq_getElem hlt'] at hg
    injection hg with hg
    subst hg
    have hat : c.ac[i]? = some c.ac[i] := List.getElem?_eq_getElem hlt
    have hstep : stepD V c x = if statedD c.ac[i] x.kind = true then (match deedD V c.es c.ac[i] x with | .error e => .error e | .ok r => .ok { c with es := r.1, ac := c.ac.set i r.2 }) else .error 6 := by
      unfold stepD
      rw [if_neg k9, hi]
      simp only [hat]
      by_cases hq : statedD c.ac[i] x.kind = true
      · rw [if_pos hq, if_pos hq]
        cases deedD V c.es c.ac[i] x <;> rfl
      · rw [if_neg hq, if_neg hq]
    have hmem : ∀ k ∈ [gc, bl[i]], k ∈ gc :: bl := by
      intro k hk
      rcases List.mem_cons.1 hk with rfl | hk
      · simp
      · obtain rfl : k = bl[i] := by simpa using hk
        exact List.mem_cons_of_mem _ (List.getElem_mem hlt')
    split at hS
    · next hst =>
      obtain ⟨hr, ⟨ev', hB, hT⟩, hA⟩ := hS
      rw [if_pos hst] at hstep
      rw [← hk.day] at hB
      cases hd : deedD V c.es c.ac[i] x with
      | error er =>
        rw [hd] at hstep hr hB hA
        simp only at hstep
        refine ⟨by rw [hstep]; exact hr, ev', ?_, hT.more hmem⟩
        rw [hstep]
        have := h.done hlt hlt' (es' := c.es) (a' := c.ac[i]) hB hA hT rfl
        rw [List.set_getElem_self] at this
        exact this
      | ok r =>
        rw [hd] at hstep hr hB hA
        simp only at hstep
        refine ⟨by rw [hstep]; exact hr, ev', ?_, hT.more hmem⟩
        rw [hstep]
        obtain ⟨ys, _, hD⟩ := deed_of hk.k0 (by omega) hst hd
        exact h.done hlt hlt' hB hA hT (hD.acc (hk.ac _ (List.getElem_mem hlt)) (fun h => hk.c2 (by omega))).2
    · next hst =>
      rw [if_neg hst] at hstep
      refine ⟨by rw [hstep]; exact hS.1, ev, ?_, (Turn.refl _ _ _).up hS.2 h.bk.le⟩
      rw [hstep]
      exact h.up hS.2
end Go.Proofs.YtmlhoojcdidgkaaGreat

/-
  Package folio: the run of deeds (what lies where).
-/
namespace Go.Proofs.YtmlhoojcdidgkaaGreat
set_option linter.unusedSimpArgs false
set_option linter.unusedVariables false
open Go.RowKit Go.Maps
open Go.Sort (grow size_grow)


set_option maxHeartbeats 4000000
set_option maxRecDepth 100000
/-- The accounts, while they are made. -/
structure Made (w wr : World) (gc gm : Nat) (bl : List Nat) (V : Env) (At : Option Addr) (ct : Nat) (bills : List Bill) : Prop where
  at_ : wr.heap[gc]? = some (.cells (crsCells (.slice none 0 0) 0 gm V At ct) 96 (0, 0))
  len : bl.length = bills.length
  acc : ∀ i (h : i < bills.length) (h' : i < bl.length), AccIn wr bl[i] ⟨bills[i], 0, 0⟩
  lt : ∀ b ∈ bl, b < wr.heap.size ∧ gc < b ∧ gm < b
  rises : bl.Pairwise (· < ·)
  map : ∃ D, wr.ownsMap Tryz.prog 3 rdV gm bills.length D ∧ MapOf D (stays bills) bl
  bd : w.heap.size ≤ gm ∧ w.heap.size ≤ gc ∧ gm < wr.heap.size ∧ gc < wr.heap.size ∧ gm ≠ gc
  below : Below w.heap.size w wr
theorem MapOf.put {D : DataW Value} {st : List Int} {bl : List Nat} (h : MapOf D st bl) (hD : IsMap D) (hl : bl.length = st.length) {s : Int} (hs : s ∉ st) (b : Nat) : MapOf (D.put (.int .i64 s) (.held (ptrV b))) (st ++ [s]) (bl ++ [b]) := by
  intro r
  by_cases e : r = s
  · subst e
    refine ⟨fun i hi he => ?_, fun hn => absurd (by simp) hn⟩
    have hil : i = st.length := by
      rw [List.length_append] at hi
      rcases Nat.lt_or_ge i st.length with h1 | h1
      · exfalso
        rw [List.getElem_append_left h1] at he
        exact hs (by rw [← he]; exact List.getElem_mem h1)
      · simp at hi; omega
    refine ⟨b, by rw [hil, ← hl]; simp, ?_, Maps.has_put_same hD (by trivial) _⟩
    rw [atKey_put_same hD (by trivial)]
  · have hne : (Lit.int .i64 r : Lit) ≠ .int .i64 s := fun h => e (by injection h)
    rw [atKey_put_other hne, Maps.has_put_other hne]
    refine ⟨fun i hi he => ?_, fun hn => (h r).2 (fun hm => hn (by simp [hm]))⟩
    have hil : i < st.length := by
      rcases Nat.lt_or_ge i st.length with h1 | h1
      · exact h1
      · exfalso
        rw [List.getElem_append_right h1] at he
        simp at he
        exact e he.symm
    rw [List.getElem_append_left hil] at he
    obtain ⟨b', e1, e2⟩ := (h r).1 i hil he
    exact ⟨b', by rw [List.getElem?_append_left (by omega)]; exact e1, e2⟩
theorem MapOf.nil : MapOf (.map []) [] [] := fun _ => ⟨fun i hi => by simp at hi, fun _ => ⟨rfl, rfl⟩⟩
theorem Made.up {w wr w' : World} {gc gm : Nat} {bl : List Nat} {V : Env} {At : Option Addr} {ct : Nat} {bills : List Bill} (h : Made w wr gc gm bl V At ct bills) (hb : Below wr.heap.size wr w') : Made w w' gc gm bl V At ct bills := by
  obtain ⟨h1, h2, h3, h4, h5, ⟨D, h6, h7⟩, h8, h9⟩ := h
  exact ⟨by rw [hb.block gc h8.2.2.2.1]; exact h1, h2, fun i a b => (h3 i a b).up hb, fun b hb' => ⟨Nat.lt_of_lt_of_le (h4 b hb').1 hb.size, (h4 b hb').2⟩, h5, ⟨D, h6.kept (grownBy_below hb none) (by simp), h7⟩, ⟨h8.1, h8.2.1, Nat.lt_of_lt_of_le h8.2.2.1 hb.size, Nat.lt_of_lt_of_le h8.2.2.2.1 hb.size, h8.2.2.2.2⟩, below_up h9 h9.size hb⟩
/-- One more account. -/
theorem Made.snoc {w wr w' : World} {gc gm b : Nat} {bl : List Nat} {V : Env} {At : Option Addr} {ct : Nat} {bills : List Bill} {x : Bill} {D' : DataW Value} (h : Made w wr gc gm bl V At ct bills) (hg : wr.grownBy w' (some gm)) (hA : AccIn w' b ⟨x, 0, 0⟩) (hb : wr.heap.size ≤ b)
    (hm : ∃ D, wr.ownsMap Tryz.prog 3 rdV gm bills.length D ∧ MapOf D (stays bills) bl ∧ D' = D.put (.int .i64 x.stay) (.held (ptrV b)) ∧ IsMap D) (hown : w'.ownsMap Tryz.prog 3 rdV gm (bills.length + 1) D') (hn : x.stay ∉ stays bills) : Made w w' gc gm (bl ++ [b]) V At ct (bills ++ [x]) := by
  obtain ⟨h1, h2, h3, h4, h5, _, h8, h9⟩ := h
  have hblk : ∀ k, k < wr.heap.size → k ≠ gm → w'.heap[k]? = wr.heap[k]? := fun k hk hne => hg.block k hk (by intro e; injection e with e; exact hne e)
  refine ⟨by rw [hblk gc h8.2.2.2.1 (Ne.symm h8.2.2.2.2)]; exact h1, by simp [h2], fun i hi hi' => ?_, fun k hk => ?_, ?_, ⟨D', by simpa using hown, ?_⟩, ⟨h8.1, h8.2.1, Nat.lt_of_lt_of_le h8.2.2.1 hg.size, Nat.lt_of_lt_of_le h8.2.2.2.1 hg.size, h8.2.2.2.2⟩, ?_⟩
  · rcases Nat.lt_or_ge i bills.length with h | h
    · rw [List.getElem_append_left (by omega)]
      simp only [List.getElem_append_left h]
      have := h4 _ (List.getElem_mem (show i < bl.length by omega))
      exact (h3 i h (by omega)).of_eq (hblk _ this.1 (by omega))
    · have hie : i = bills.length := by simp at hi; omega
      subst hie
      rw [List.getElem_append_right (by omega)]
      simp only [List.getElem_append_right (Nat.le_refl _), Nat.sub_self, h2]
      exact hA
  · rcases List.mem_append.1 hk with hk | hk
    · exact ⟨Nat.lt_of_lt_of_le (h4 k hk).1 hg.size, (h4 k hk).2⟩
    · obtain rfl : k = b := by simpa using hk
      exact ⟨hA.lt, by omega, by omega⟩
  · refine List.pairwise_append.2 ⟨h5, List.pairwise_singleton _ _, fun a ha c hc => ?_⟩
    obtain rfl : c = b := by simpa using hc
    have := (h4 a ha).1
    omega
  · obtain ⟨D, g1, g2, rfl, g4⟩ := hm
    have := g2.put g4 (by rw [h2]; unfold stays; simp) hn b
    unfold stays at this ⊢
    rw [List.map_append]
    exact this
  · exact h9.grown hg (by have := h9.size; omega) (fun k e => by injection e with e; omega)
/-- All accounts are made: the course at its start. -/
theorem Made.course {w wr : World} {gc gm : Nat} {bl : List Nat} {V : Env} {At : Option Addr} {ct : Nat} {bills : List Bill} (h : Made w wr gc gm bl V At ct bills) (hts : SlTax w At V.ts) : CIn wr gc gm wr.heap.size bl V At ct w.heap.size (crs0 bills) (.slice none 0 0) := by
  obtain ⟨h1, h2, h3, h4, h5, ⟨D, h6, h7⟩, h8, h9⟩ := h
  refine ⟨⟨h1, OwnL.nil_, h8.2.2.2.1, Nat.le_refl _⟩, by simp [crs0, h2], fun i hi hi' => ?_, fun b hb => ⟨(h4 b hb).1, by have := (h4 b hb).2; omega, by have := (h4 b hb).2; omega⟩, h5.imp (fun h => Nat.ne_of_lt h), ⟨_, D, h6, ?_⟩, ⟨h8.2.2.1, h8.2.2.2.2, fun hm => by have := (h4 _ hm).2; omega, h8.1⟩, h8.2.1, hts.below h9⟩
  · have := h3 i (by simpa [crs0] using hi) hi'
    simpa [crs0] using this
  · have : ((crs0 bills).ac.map fun a => a.b.stay) = stays bills := by unfold crs0 stays; simp [Function.comp_def]
    rw [this]
    exact h7
end Go.Proofs.YtmlhoojcdidgkaaGreat

/-
  Package folio: the round of a run.
-/
namespace Go.Proofs.YtmlhoojcdidgkaaGreat
set_option linter.unusedSimpArgs false
set_option linter.unusedVariables false
open Go.RowKit Go.Maps
open Go.Sort (grow size_grow)


set_option maxHeartbeats 4000000
set_option maxRecDepth 100000
theorem elemErr : Elem Tryz.prog 52 33 1 8 := elem_mk Tryz.underlying52 (by kernel_rfl)
abbrev OwnErr (w : World) (base : Nat) (v : Value) (L : List Int) : Prop := OwnL w base 33 1 intC v L
theorem CIn.grown {w w' : World} {gc gm base : Nat} {bl : List Nat} {V : Env} {At : Option Addr} {ct L : Nat} {c : Crs} {ev : Value} {row : Option Nat} (h : CIn w gc gm base bl V At ct L c ev) (hg : w.grownBy w' row) (hr : ∀ b, row = some b → base ≤ b ∧ ev.ownBlock ≠ some b) : CIn w' gc gm base bl V At ct L c ev := by
  have hlow : ∀ k, k < base → w'.heap[k]? = w.heap[k]? := fun k hk => hg.block k (by have := h.bk.le; omega) (fun e => by have := (hr k e.symm).1; omega)
  refine ⟨⟨(hlow gc h.bk.lt).trans h.bk.at_, h.bk.own.kept hg ?_, h.bk.lt, Nat.le_trans h.bk.le hg.size⟩, h.len, fun i h1 h2 => (h.acc i h1 h2).of_eq (hlow _ (h.lt _ (List.getElem_mem h2)).1), h.lt, h.nodup, ?_, h.gm_lt, h.low, ?_⟩
  · cases hv : ev.ownBlock with
    | none => exact .inl rfl
    | some k => exact .inr (fun e => (hr k e.symm).2 hv)
  · obtain ⟨n, D, h1, h2⟩ := h.map
    obtain ⟨es, clock, hb, r⟩ := h1
    exact ⟨n, D, ⟨es, clock, (hlow gm h.gm_lt.1).trans hb, r⟩, h2⟩
  · intro hne
    obtain ⟨b, off, e, hlt, hc⟩ := h.ts hne
    refine ⟨b, off, e, hlt, fun k hk j v hv => ?_⟩
    have := hc k hk j v hv
    unfold World.cell? at this ⊢
    rw [hlow b (by have := h.low; have := h.bk.lt; omega)]
    exact this
theorem crs_day {w : World} {gc gm : Nat} {V : Env} {At : Option Addr} {ct : Nat} {ev : Value} {d d' : Int} (h : w.heap[gc]? = some (.cells (crsCells ev d gm V At ct) 96 (0, 0))) : (w.setCell ⟨gc, 1, none⟩ (.int .i64 d')).heap[gc]? = some (.cells (crsCells ev d' gm V At ct) 96 (0, 0)) :=
  (heap_setCell_same w gc 1 _ _ _ h).trans rfl
theorem CIn.day_ {w : World} {gc gm base : Nat} {bl : List Nat} {V : Env} {At : Option Addr} {ct L : Nat} {c : Crs} {ev : Value} (h : CIn w gc gm base bl V At ct L c ev) (d' : Int) : CIn (w.setCell ⟨gc, 1, none⟩ (.int .i64 d')) gc gm base bl V At ct L { c with day := d' } ev := by
  refine CIn.brk (es' := c.es) h ⟨crs_day h.bk.at_, h.bk.own.turn (B := 0) (fun k h1 _ => Below.heap_setCell _ _ _ _ (by have := h.bk.lt; show k ≠ gc; omega)) (by simp [World.setCell]), h.bk.lt, by simp [World.setCell]; exact h.bk.le⟩ ((Turn.refl [gc] base w).set (by simp) _)
theorem OwnL.turned {α : Type} {w w' : World} {base B size : Nat} {S : List Nat} {e : TypeId} {enc : α → List Value} {v ev ev' : Value} {M : List α} (h : OwnL w base e size enc v M) (ht : Turn S B ev ev' w w') (hS : ∀ k ∈ S, k < base) (hd : ∀ b, ev.ownBlock = some b → v.ownBlock ≠ some b) : OwnL w' base e size enc v M := by
  refine ⟨h.1, ?_⟩
  rcases h.2 with h1 | ⟨g, cap, cur, h1, h2, h3, h4⟩
  · exact .inl h1
  · refine .inr ⟨g, cap, cur, h1, h2, ?_, h4⟩
    rw [ht.same g (Array.getElem?_eq_some_iff.1 h3).1 (fun hm => by have := hS g hm; omega) (fun e => hd g e.symm (by rw [h1]; rfl))]
    exact h3
/-- What a round hands on. -/
def LoopR (w : World) (gc gm base : Nat) (bl : List Nat) (V : Env) (At : Option Addr) (ct L : Nat) (bills : List Bill) (l : List Deed) (errv : Value) (wr : World) : Prop :=
  ∃ ev, CIn wr gc gm base bl V At ct L (runAll V bills l).1 ev ∧ OwnErr wr base errv (runAll V bills l).2 ∧ (∀ b, ev.ownBlock = some b → errv.ownBlock ≠ some b) ∧ Below w.heap.size w wr
theorem stepD_err {V : Env} {c : Crs} {x : Deed} {e : Int} (h : stepD V c x = .error e) : e ≠ 0 := by
  unfold stepD brokeD at h
  split at h
  · split at h
    · injection h with h; omega
    · cases h
  · split at h
    · injection h with h; omega
    · split at h
      · injection h with h; omega
      · split at h
        · next a _ _ =>
          split at h
          · next e' hd =>
            injection h with h
            subst h
            exact deedD_err hd
          · cases h
        · injection h with h; omega
theorem run_form {V : Env} {bills : List Bill} {l : List Deed} {x : Deed} (h : formedD (runAll V bills l).1.day x = false) : runAll V bills (l ++ [x]) = ((runAll V bills l).1, (runAll V bills l).2 ++ [1]) := by
  rw [runAll_snoc]
  unfold runD
  rw [h]
  rfl
theorem run_bad {V : Env} {bills : List Bill} {l : List Deed} {x : Deed} {e : Int} (h : formedD (runAll V bills l).1.day x = true) (h2 : stepD V { (runAll V bills l).1 with day := x.day } x = .error e) : runAll V bills (l ++ [x]) = ((runAll V bills l).1, (runAll V bills l).2 ++ [e]) := by
  rw [runAll_snoc]
  unfold runD
  rw [h, if_pos rfl, h2]
theorem run_good {V : Env} {bills : List Bill} {l : List Deed} {x : Deed} {c : Crs} (h : formedD (runAll V bills l).1.day x = true) (h2 : stepD V { (runAll V bills l).1 with day := x.day } x = .ok c) : runAll V bills (l ++ [x]) = (c, (runAll V bills l).2 ++ [0]) := by
  rw [runAll_snoc]
  unfold runD
  rw [h, if_pos rfl, h2]
theorem step_ok_of {V : Env} {bills : List Bill} {l : List Deed} {x : Deed} (hV : EnvOk V) (hb : billsOk bills = true) (hl : l.length ≤ 499) (htl : V.ts.length ≤ 1000) (hf : formedD (runAll V bills l).1.day x = true) (s0 : -9223372036854775808 ≤ x.stay ∧ x.stay ≤ 9223372036854775807) : StepOk V { (runAll V bills l).1 with day := x.day } x l.length := by
  obtain ⟨h1, _, _⟩ := run_ok hV hb l
  obtain ⟨f1, f2, f3, f4⟩ := formed_iff.1 hf
  have := h1.len
  exact ⟨rfl, by simp only; omega, h1.cents, h1.ac, by omega, by omega, hV.p, f1.1, f1.2, f3, f4, s0.1, s0.2⟩
/-- An error is appended. -/
theorem LoopR.push {w w4 w5 : World} {gc gm base : Nat} {bl : List Nat} {V : Env} {At : Option Addr} {ct L : Nat} {bills : List Bill} {l : List Deed} {x : Deed} {c : Crs} {ev errv errv' : Value} {errs : List Int} {e : Int} (hC : CIn w4 gc gm base bl V At ct L c ev) (hd : ∀ b, ev.ownBlock = some b → errv.ownBlock ≠ some b)
    (hO : OwnErr w4 base errv errs) (hO' : OwnErr w5 base errv' (errs ++ [e])) (hg : w4.grownBy w5 errv.ownBlock) (hat : errv'.ownBlock = errv.ownBlock ∨ errv'.ownBlock = some w4.heap.size) (hB : Below w.heap.size w w4) (hL : w.heap.size ≤ base)
    (hrun : runAll V bills (l ++ [x]) = (c, errs ++ [e])) : LoopR w gc gm base bl V At ct L bills (l ++ [x]) errv' w5 := by
  have hrow : ∀ b, errv.ownBlock = some b → base ≤ b ∧ ev.ownBlock ≠ some b := fun b hb => ⟨(hO.lt b hb).1, fun e => hd b e hb⟩
  refine ⟨ev, ?_, ?_, fun b hb hb' => ?_, hB.grown hg hB.size (fun k hk => by have := (hrow k hk).1; omega)⟩
  · rw [hrun]
    exact hC.grown hg hrow
  · rw [hrun]
    exact hO'
  · rcases hat with h | h
    · exact hd b hb (h.symm.trans hb')
    · have h2 : some w4.heap.size = some b := h.symm.trans hb'
      injection h2 with h2
      have := (hC.bk.own.lt b hb).2
      omega
end Go.Proofs.YtmlhoojcdidgkaaGreat

/-
  Package folio: the run of deeds.
-/
namespace Go.Proofs.YtmlhoojcdidgkaaGreat
set_option linter.unusedSimpArgs false
set_option linter.unusedVariables false
open Go.RowKit Go.Maps
open Go.Sort (grow size_grow)


set_option maxHeartbeats 4000000
set_option maxRecDepth 100000
def OutRun (r : List Entry × List Int × Int) (e : Ending) (w' : World) : Prop := ∃ A1 c1 A2 c2, e = .returned (.tuple #[.slice A1 r.1.length c1, .slice A2 r.2.1.length c2, .int .i64 r.2.2]) ∧ SlEnt w' A1 r.1 ∧ SlInt w' A2 r.2.1
theorem outRun_nil {er : Int} {w' : World} : OutRun ([], [], er) (.returned (.tuple #[.slice none 0 0, .slice none 0 0, .int .i64 er])) w' := ⟨none, 0, none, 0, rfl, Sl.nil_, Sl.nil_⟩
theorem payR_zero {k : Con} : (payR k 0).2 = if conOk k = true then 0 else 1 := by
  unfold payR
  have h0 : inB 0 0 1000000000 = true := by decide
  rw [h0, Bool.and_true]
  cases hk : conOk k
  · rfl
  · have hk2 := hk
    unfold conOk at hk2
    simp only [Bool.and_eq_true, inB_iff] at hk2
    have hz : rnd (0 * k.n) k.d 2 = 0 := by
      rw [Int.zero_mul]
      unfold rnd
      simp
    rw [hz, if_pos rfl, if_neg (by omega)]
    rfl
theorem stmt_err {p d : Int} {bills : List Bill} (hl : bills.length ≤ 3000) : (partOk p d = true ∧ billsOk bills = true ∧ ((stmtR p d bills 0).2.2 = 0 ∨ (stmtR p d bills 0).2.2 = 3)) ∨ (¬ (partOk p d = true ∧ billsOk bills = true) ∧ stmtR p d bills 0 = ([], 0, 1)) := by
  have h3 : inB 0 0 29 = true := by decide
  by_cases h : partOk p d = true ∧ billsOk bills = true
  · refine .inl ⟨h.1, h.2, ?_⟩
    by_cases hs : 1000000000 < (comms p d (ofCh bills 0)).sum
    · rw [stmtR_far hl h.1 h.2 h3 hs]; simp
    · rw [stmtR_ok hl h.1 h.2 h3 hs]; simp
  · refine .inr ⟨h, stmtR_no hl ?_⟩
    rw [h3]
    cases h1 : partOk p d <;> cases h2 : billsOk bills <;> simp_all
theorem deed_len (x : Deed) : x.cs.length = 4 := rfl
abbrev SlDeed (w : World) (A : Option Addr) (l : List Deed) : Prop := Sl w w.heap.size 4 Deed.cs A l
theorem frun_no (V : Env) (bills : List Bill) (l : List Deed) (A At Al : Option Addr) (c ct cl : Nat) (w : World) (hs : SlBill w A bills) (hts : SlTax w At V.ts) (hb : bills.length ≤ 3000) (htl : V.ts.length ≤ 1000) (hll : l.length ≤ 500) (hok : runOk V bills = false) :
    Calls Tryz.prog 17 #[.slice A bills.length c, .slice At V.ts.length ct, .agg #[.int .i64 V.p, .int .i64 V.d], V.k.v, .slice Al l.length cl] w fun e w' => OutRun (runR V bills l) e w' ∧ Below w.heap.size w w' := by
  have hR : runR V bills l = ([], [], 1) := by unfold runR; rw [if_neg (by omega), hok]; rfl
  rw [hR]
  have hx : ¬ (500 : Int) < (l.length : Int) := by omega
  obtain ⟨r, s, er, hst⟩ : ∃ r s er, stmtR V.p V.d bills 0 = (r, s, er) := ⟨_, _, _, rfl⟩
  obtain ⟨q, e2, hq⟩ : ∃ q e2, payR V.k 0 = (q, e2) := ⟨_, _, rfl⟩
  have hq2 : e2 = if conOk V.k = true then 0 else 1 := by have := payR_zero (k := V.k); rw [hq] at this; exact this
  have HST := Lib.hid (fun W h => cstmt_lit hst A c W h (by unfold maxLen; omega))
  have HPAY : Hid (∀ W, Calls Tryz.prog 45 #[V.k.v, .int .i64 0] W fun e w' => e = .returned (.tuple #[.int .i64 q, .int .i64 e2]) ∧ Below W.heap.size W w') := Lib.hid (fun W => by
    have := wpay_any V.k 0 W
    rw [hq] at this
    exact this)
  rcases stmt_err (p := V.p) (d := V.d) hb with ⟨h1, h2, he⟩ | ⟨hno, he⟩
  · rw [hst] at he
    simp only at he
    cases hck : conOk V.k
    · rw [hck] at hq2
      simp only [Bool.false_eq_true, if_false] at hq2
      subst hq2
      rcases he with rfl | rfl
      all_goals
        go_enter Tryz.func17, Tryz.ntmps17
        go_wp2_with fail
        refine (HST.out _ (hs.up (by repeat' (first | (with_reducible exact Below.refl _ _) | (with_reducible assumption) | (with_reducible refine below_drewN ?_ _) | (with_reducible refine Below.drew ?_) | (with_reducible refine below_regrown_up _ _ ?_ ?_) | (with_reducible refine Below.alloc ?_ ?_ _) | (with_reducible refine Below.setCell ?_ ?_ _) | (with_reducible refine below_up ?_ ?_ (by assumption)) | (with_reducible exact Nat.le_refl _) | omega | (simp; done) | (simp; omega))))).mono ?_
        rintro e w1 ⟨⟨A1, c1, rfl, _⟩, b1⟩
        have z1 := b1.size
        simp only [World.size_alloc] at z1
        obtain ⟨hc1, hf1⟩ := bcellB (B := w.heap.size + 1 + 1) b1 (by simp)
        have x0 : w1.cell? ⟨w.heap.size + 1, 0, none⟩ = some (.int .i64 V.k.fx) := by rw [hc1 _ _ (by omega)]; go_simp
        have x1 : w1.cell? ⟨w.heap.size + 1, 1, none⟩ = some (.int .i64 V.k.n) := by rw [hc1 _ _ (by omega)]; go_simp
        have x2 : w1.cell? ⟨w.heap.size + 1, 2, none⟩ = some (.int .i64 V.k.d) := by rw [hc1 _ _ (by omega)]; go_simp
        have x3 : w1.cell? ⟨w.heap.size + 1, 3, none⟩ = some (.int .i64 V.k.most) := by rw [hc1 _ _ (by omega)]; go_simp
        have y0 : w1.cell? ⟨w.heap.size, 0, none⟩ = some (.int .i64 V.p) := by rw [hc1 _ _ (by omega)]; go_simp
        have y1 : w1.cell? ⟨w.heap.size, 1, none⟩ = some (.int .i64 V.d) := by rw [hc1 _ _ (by omega)]; go_simp
        have hb1 : Below w.heap.size w w1 := (by repeat' (first | (with_reducible exact Below.refl _ _) | (with_reducible assumption) | (with_reducible refine below_drewN ?_ _) | (with_reducible refine Below.drew ?_) | (with_reducible refine below_regrown_up _ _ ?_ ?_) | (with_reducible refine Below.alloc ?_ ?_ _) | (with_reducible refine Below.setCell ?_ ?_ _) | (with_reducible refine below_up ?_ ?_ (by assumption)) | (with_reducible exact Nat.le_refl _) | omega | (simp; done) | (simp; omega)))
        have lx : w.heap.size + 1 < w1.heap.size := by omega
        have ly : w.heap.size < w1.heap.size := by omega
        clear hc1 hf1
        go_wp2_with fail
        refine (HPAY.out _).mono ?_
        rintro e w2 ⟨rfl, b2⟩
        go_wp2_with fail
        go_ret3
        exact ⟨outRun_nil, below_up hb1 hb1.size b2⟩
    · have htx : taxesOk V.ts = false := by
        cases htx : taxesOk V.ts
        · rfl
        · unfold runOk at hok
          rw [h1, h2, hck, htx, decide_eq_true hb] at hok
          cases hok
      rw [hck, if_pos rfl] at hq2
      subst hq2
      rcases he with rfl | rfl
      all_goals
        go_enter Tryz.func17, Tryz.ntmps17
        go_wp2_with fail
        refine (HST.out _ (hs.up (by repeat' (first | (with_reducible exact Below.refl _ _) | (with_reducible assumption) | (with_reducible refine below_drewN ?_ _) | (with_reducible refine Below.drew ?_) | (with_reducible refine below_regrown_up _ _ ?_ ?_) | (with_reducible refine Below.alloc ?_ ?_ _) | (with_reducible refine Below.setCell ?_ ?_ _) | (with_reducible refine below_up ?_ ?_ (by assumption)) | (with_reducible exact Nat.le_refl _) | omega | (simp; done) | (simp; omega))))).mono ?_
        rintro e w1 ⟨⟨A1, c1, rfl, _⟩, b1⟩
        have z1 := b1.size
        simp only [World.size_alloc] at z1
        obtain ⟨hc1, hf1⟩ := bcellB (B := w.heap.size + 1 + 1) b1 (by simp)
        have x0 : w1.cell? ⟨w.heap.size + 1, 0, none⟩ = some (.int .i64 V.k.fx) := by rw [hc1 _ _ (by omega)]; go_simp
        have x1 : w1.cell? ⟨w.heap.size + 1, 1, none⟩ = some (.int .i64 V.k.n) := by rw [hc1 _ _ (by omega)]; go_simp
        have x2 : w1.cell? ⟨w.heap.size + 1, 2, none⟩ = some (.int .i64 V.k.d) := by rw [hc1 _ _ (by omega)]; go_simp
        have x3 : w1.cell? ⟨w.heap.size + 1, 3, none⟩ = some (.int .i64 V.k.most) := by rw [hc1 _ _ (by omega)]; go_simp
        have y0 : w1.cell? ⟨w.heap.size, 0, none⟩ = some (.int .i64 V.p) := by rw [hc1 _ _ (by omega)]; go_simp
        have y1 : w1.cell? ⟨w.heap.size, 1, none⟩ = some (.int .i64 V.d) := by rw [hc1 _ _ (by omega)]; go_simp
        have hb1 : Below w.heap.size w w1 := (by repeat' (first | (with_reducible exact Below.refl _ _) | (with_reducible assumption) | (with_reducible refine below_drewN ?_ _) | (with_reducible refine Below.drew ?_) | (with_reducible refine below_regrown_up _ _ ?_ ?_) | (with_reducible refine Below.alloc ?_ ?_ _) | (with_reducible refine Below.setCell ?_ ?_ _) | (with_reducible refine below_up ?_ ?_ (by assumption)) | (with_reducible exact Nat.le_refl _) | omega | (simp; done) | (simp; omega)))
        have lx : w.heap.size + 1 < w1.heap.size := by omega
        have ly : w.heap.size < w1.heap.size := by omega
        clear hc1 hf1
        go_wp2_with fail
        refine (HPAY.out _).mono ?_
        rintro e w2 ⟨rfl, b2⟩
        go_wp2_with fail
        refine (tvalid_any V.ts At ct _ (hts.up (below_up hb1 hb1.size b2)) (by omega)).mono ?_
        rintro e w3 ⟨rfl, b3⟩
        rw [htx]
        go_wp2_with fail
        go_ret3
        exact ⟨outRun_nil, below_up (below_up hb1 hb1.size b2) (by have := hb1.size; have := b2.size; omega) b3⟩
  · rw [hst] at he
    obtain ⟨rfl, rfl, rfl⟩ : r = [] ∧ s = 0 ∧ er = 1 := by injection he with h1 h2; injection h2 with h2 h3; exact ⟨h1, h2, h3⟩
    go_enter Tryz.func17, Tryz.ntmps17
    go_wp2_with fail
    refine (HST.out _ (hs.up (by repeat' (first | (with_reducible exact Below.refl _ _) | (with_reducible assumption) | (with_reducible refine below_drewN ?_ _) | (with_reducible refine Below.drew ?_) | (with_reducible refine below_regrown_up _ _ ?_ ?_) | (with_reducible refine Below.alloc ?_ ?_ _) | (with_reducible refine Below.setCell ?_ ?_ _) | (with_reducible refine below_up ?_ ?_ (by assumption)) | (with_reducible exact Nat.le_refl _) | omega | (simp; done) | (simp; omega))))).mono ?_
    rintro e w1 ⟨⟨A1, c1, rfl, _⟩, b1⟩
    have z1 := b1.size
    simp only [World.size_alloc] at z1
    obtain ⟨hc1, hf1⟩ := bcellB (B := w.heap.size + 1 + 1) b1 (by simp)
    have x0 : w1.cell? ⟨w.heap.size + 1, 0, none⟩ = some (.int .i64 V.k.fx) := by rw [hc1 _ _ (by omega)]; go_simp
    have x1 : w1.cell? ⟨w.heap.size + 1, 1, none⟩ = some (.int .i64 V.k.n) := by rw [hc1 _ _ (by omega)]; go_simp
    have x2 : w1.cell? ⟨w.heap.size + 1, 2, none⟩ = some (.int .i64 V.k.d) := by rw [hc1 _ _ (by omega)]; go_simp
    have x3 : w1.cell? ⟨w.heap.size + 1, 3, none⟩ = some (.int .i64 V.k.most) := by rw [hc1 _ _ (by omega)]; go_simp
    have y0 : w1.cell? ⟨w.heap.size, 0, none⟩ = some (.int .i64 V.p) := by rw [hc1 _ _ (by omega)]; go_simp
    have y1 : w1.cell? ⟨w.heap.size, 1, none⟩ = some (.int .i64 V.d) := by rw [hc1 _ _ (by omega)]; go_simp
    have hb1 : Below w.heap.size w w1 := (by repeat' (first | (with_reducible exact Below.refl _ _) | (with_reducible assumption) | (with_reducible refine below_drewN ?_ _) | (with_reducible refine Below.drew ?_) | (with_reducible refine below_regrown_up _ _ ?_ ?_) | (with_reducible refine Below.alloc ?_ ?_ _) | (with_reducible refine Below.setCell ?_ ?_ _) | (with_reducible refine below_up ?_ ?_ (by assumption)) | (with_reducible exact Nat.le_refl _) | omega | (simp; done) | (simp; omega)))
    have lx : w.heap.size + 1 < w1.heap.size := by omega
    have ly : w.heap.size < w1.heap.size := by omega
    clear hc1 hf1
    go_wp2_with fail
    go_ret3
    exact ⟨outRun_nil, hb1⟩
end Go.Proofs.YtmlhoojcdidgkaaGreat
