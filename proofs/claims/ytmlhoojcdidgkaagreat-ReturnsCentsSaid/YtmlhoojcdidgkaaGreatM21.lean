/-
  Texts, one behind the other: FoW8, FoR.
-/
import Derived.Test.YtmlhoojcdidgkaaGreatM20
import Derived.Test.YtmlhoojcdidgkaaGreatM16
/-
  Package folio: the rules of deeds.
-/
namespace Go.Proofs.YtmlhoojcdidgkaaGreat
set_option linter.unusedSimpArgs false
set_option linter.unusedVariables false
open Go.RowKit Go.Maps
open Go.Sort (grow size_grow)


set_option maxHeartbeats 4000000
set_option maxRecDepth 100000
/-- A reader that keeps the value. -/
def rdV (v : Value) : Option (DataW Value × List MemPlace) := some (.held v, [])
theorem rdV_inv {v u : Value} {ps : List MemPlace} (h : rdV v = some (.held u, ps)) : v = u := by
  unfold rdV at h
  injection h with h
  injection h with h _
  injection h
/-- What is done by a rule: a function value that does the deed of the kind. -/
def ruleF (w : World) (gc : Nat) (k : Int) (v : Value) : Prop :=
  (k = 1 ∧ ∃ b, v = .func (.func 122) #[] #[.pointer (some ⟨b, 0, none⟩)] ∧ b < w.heap.size ∧ w.cell? ⟨b, 0, none⟩ = some (.int .i64 1)) ∨
  (k = 2 ∧ v = .func (.func 109) #[.pointer (some ⟨gc, 0, none⟩)] #[]) ∨
  (k = 3 ∧ v = .func (.func 111) #[.pointer (some ⟨gc, 0, none⟩)] #[]) ∨
  (k = 4 ∧ ∃ b, v = .func (.func 122) #[] #[.pointer (some ⟨b, 0, none⟩)] ∧ b < w.heap.size ∧ w.cell? ⟨b, 0, none⟩ = some (.int .i64 2)) ∨
  (k = 5 ∧ v = .func (.func 112) #[.pointer (some ⟨gc, 0, none⟩)] #[]) ∨
  (k = 6 ∧ v = .func (.func 113) #[.pointer (some ⟨gc, 0, none⟩)] #[]) ∨
  (k = 7 ∧ v = .func (.func 114) #[.pointer (some ⟨gc, 0, none⟩)] #[]) ∨
  (k = 8 ∧ v = .func (.func 110) #[.pointer (some ⟨gc, 0, none⟩)] #[])
def RuleAt (w : World) (gc : Nat) (k : Int) (v : Value) : Prop := ∃ A c fv, v = .agg #[.slice A (ruleS k).length c, .bool (ruleD k), fv] ∧ SlInt w A (ruleS k) ∧ ruleF w gc k fv
theorem becomes_any (n : Int) (w : World) : Calls Tryz.prog 108 #[.int .i64 n] w fun e w' => e = .returned (.func (.func 122) #[] #[.pointer (some ⟨w.heap.size, 0, none⟩)]) ∧ w' = w.alloc (.cells #[.int .i64 n] 3) := by
  go_enter Tryz.func108, Tryz.ntmps108
  go_wp2_with fail
  go_ret
  exact ⟨rfl, rfl⟩
theorem zero_rule (w : World) : (zeroValue 130).run Tryz.prog w = .ok (.agg #[.slice none 0 0, .bool false, .nilFunc]) w := by kernel_rfl
/-- From a border on, all that was there is as it was. -/
def Tops (B : Nat) (w W : World) : Prop := w.heap.size ≤ W.heap.size ∧ ∀ k, B ≤ k → k < w.heap.size → W.heap[k]? = w.heap[k]?
theorem Tops.of_below {B : Nat} {w W : World} (h : Below w.heap.size w W) : Tops B w W := ⟨h.size, fun k _ hk => h.block k hk⟩
theorem Tops.set {B : Nat} {w W : World} (h : Tops B w W) {g : Nat} (hg : g < B) (o : Nat) (v : Value) : Tops B w (W.setCell ⟨g, o, none⟩ v) := ⟨by simp [World.setCell]; exact h.1, fun k h1 h2 => (Below.heap_setCell _ _ _ _ (by show k ≠ g; omega)).trans (h.2 k h1 h2)⟩
theorem own_tops {w W : World} {B gm n : Nat} {D : DataW Value} (h : w.ownsMap Tryz.prog 3 rdV gm n D) (ht : Tops B w W) (hB : B ≤ gm) : W.ownsMap Tryz.prog 3 rdV gm n D := by
  obtain ⟨es, clock, hb, r⟩ := h
  exact ⟨es, clock, (ht.2 gm hB (Array.getElem?_eq_some_iff.1 hb).1).trans hb, r⟩
theorem keep_cells {w0 w8 W : World} {B gm b : Nat} (G : w0.grownBy w8 (some gm)) (hb : Tops B w8 W) (h1 : b < w0.heap.size) (h2 : b ≠ gm) (h3 : B ≤ b) : ∀ o, W.cell? ⟨b, o, none⟩ = w0.cell? ⟨b, o, none⟩ := by
  intro o
  unfold World.cell?
  rw [hb.2 b h3 (Nat.lt_of_lt_of_le h1 G.size), G.block b h1 (by intro e; injection e with e; exact h2 e)]
theorem keep_slice {w1 w8 W : World} {B gm : Nat} {xs : List Int} {cs : Array Value} {t : TypeId} (G : (w1.alloc (.cells cs t)).grownBy w8 (some gm)) (hb : Tops B w8 W) (h2 : gm < w1.heap.size) (h3 : B ≤ w1.heap.size) (hcs : cs.toList = xs.map (Value.int .i64)) : SlInt W (some ⟨w1.heap.size, 0, none⟩) xs := by
  refine sl_of_box (cs := cs) (fun _ => rfl) (fun o => ?_) ?_ (by rw [hcs, intC_flat])
  · rw [keep_cells G hb (by simp) (by omega) h3]
    exact World.cell?_alloc_new w1 cs t o
  · have := G.size
    have := hb.1
    simp at *
    omega
abbrev ruleV (A : Nat) (n : Nat) (d : Bool) (f : Value) : Value := .agg #[.slice (some ⟨A, 0, none⟩) n n, .bool d, f]
theorem rule_inj {W : World} {gc : Nat} {k : Int} {A : Option Addr} {n c : Nat} {d : Bool} {fv : Value} (h : RuleAt W gc k (.agg #[.slice A n c, .bool d, fv])) : SlInt W A (ruleS k) ∧ ruleF W gc k fv := by
  obtain ⟨A', c', fv', e, h1, h2⟩ := h
  simp at e
  obtain ⟨⟨rfl, _, _⟩, _, rfl⟩ := e
  exact ⟨h1, h2⟩
theorem rules_any (gc : Nat) (w : World) : Calls Tryz.prog 82 #[.pointer (some ⟨gc, 0, none⟩)] w fun e w' => (∃ gm, e = .returned (.map (some gm)) ∧ ∀ k, 1 ≤ k → k ≤ 8 → ∃ v, ∀ W, Tops w.heap.size w' W → (Instr.lookup 131 (.map (some gm)) (.int .i64 k) false).run Tryz.prog W = .ok v W ∧ RuleAt W gc k v) ∧ Below w.heap.size w w' := by
  have hmm := @run_makeMap Tryz.prog
  have h0 := World.ownsMap_made w Tryz.prog 3 rdV
  obtain ⟨w1, e1, o1, g1⟩ := ((World.ownsMap.alloc (World.ownsMap.alloc h0 (.cells #[.int .i64 0] 3)) (.cells #[.int .i64 1] 3))).update (t := 131) keyedI' Tryz.underlying131 (by unfold maxLen; omega) (key := .int .i64 1) (val := .agg #[.slice (some ⟨w.heap.size + 1, 0, none⟩) 1 1, .bool false, .func (.func 122) #[] #[.pointer (some ⟨w.heap.size + 1 + 1, 0, none⟩)]]) (keyOf_int_mk Tryz.underlying3 rfl) rfl
  obtain ⟨w2, e2, o2, g2⟩ := ((World.ownsMap.alloc o1 (.cells #[.int .i64 1, .int .i64 2, .int .i64 3] 3))).update (t := 131) keyedI' Tryz.underlying131 (by unfold maxLen; omega) (key := .int .i64 2) (val := .agg #[.slice (some ⟨w1.heap.size, 0, none⟩) 3 3, .bool false, .func (.func 109) #[.pointer (some ⟨gc, 0, none⟩)] #[]]) (keyOf_int_mk Tryz.underlying3 rfl) rfl
  obtain ⟨w3, e3, o3, g3⟩ := ((World.ownsMap.alloc o2 (.cells #[.int .i64 1, .int .i64 2] 3))).update (t := 131) keyedI' Tryz.underlying131 (by unfold maxLen; omega) (key := .int .i64 8) (val := .agg #[.slice (some ⟨w2.heap.size, 0, none⟩) 2 2, .bool true, .func (.func 110) #[.pointer (some ⟨gc, 0, none⟩)] #[]]) (keyOf_int_mk Tryz.underlying3 rfl) rfl
  obtain ⟨w4, e4, o4, g4⟩ := ((World.ownsMap.alloc o3 (.cells #[.int .i64 1] 3))).update (t := 131) keyedI' Tryz.underlying131 (by unfold maxLen; omega) (key := .int .i64 3) (val := .agg #[.slice (some ⟨w3.heap.size, 0, none⟩) 1 1, .bool false, .func (.func 111) #[.pointer (some ⟨gc, 0, none⟩)] #[]]) (keyOf_int_mk Tryz.underlying3 rfl) rfl
  obtain ⟨w5, e5, o5, g5⟩ := ((World.ownsMap.alloc (World.ownsMap.alloc o4 (.cells #[.int .i64 1] 3)) (.cells #[.int .i64 2] 3))).update (t := 131) keyedI' Tryz.underlying131 (by unfold maxLen; omega) (key := .int .i64 4) (val := .agg #[.slice (some ⟨w4.heap.size, 0, none⟩) 1 1, .bool false, .func (.func 122) #[] #[.pointer (some ⟨w4.heap.size + 1, 0, none⟩)]]) (keyOf_int_mk Tryz.underlying3 rfl) rfl
  obtain ⟨w6, e6, o6, g6⟩ := ((World.ownsMap.alloc o5 (.cells #[.int .i64 2] 3))).update (t := 131) keyedI' Tryz.underlying131 (by unfold maxLen; omega) (key := .int .i64 5) (val := .agg #[.slice (some ⟨w5.heap.size, 0, none⟩) 1 1, .bool false, .func (.func 112) #[.pointer (some ⟨gc, 0, none⟩)] #[]]) (keyOf_int_mk Tryz.underlying3 rfl) rfl
  obtain ⟨w7, e7, o7, g7⟩ := ((World.ownsMap.alloc o6 (.cells #[.int .i64 1] 3))).update (t := 131) keyedI' Tryz.underlying131 (by unfold maxLen; omega) (key := .int .i64 6) (val := .agg #[.slice (some ⟨w6.heap.size, 0, none⟩) 1 1, .bool false, .func (.func 113) #[.pointer (some ⟨gc, 0, none⟩)] #[]]) (keyOf_int_mk Tryz.underlying3 rfl) rfl
  obtain ⟨w8, e8, o8, g8⟩ := ((World.ownsMap.alloc o7 (.cells #[.int .i64 1, .int .i64 2, .int .i64 3] 3))).update (t := 131) keyedI' Tryz.underlying131 (by unfold maxLen; omega) (key := .int .i64 7) (val := .agg #[.slice (some ⟨w7.heap.size, 0, none⟩) 3 3, .bool true, .func (.func 114) #[.pointer (some ⟨gc, 0, none⟩)] #[]]) (keyOf_int_mk Tryz.underlying3 rfl) rfl
  have z1 := g1.size
  have z2 := g2.size
  have z3 := g3.size
  have z4 := g4.size
  have z5 := g5.size
  have z6 := g6.size
  have z7 := g7.size
  have z8 := g8.size
  simp only [World.size_alloc] at z1 z2 z3 z4 z5 z6 z7 z8
  have G8 := g8
  have G7 := g7.trans ((World.grownBy_alloc w7 (.cells #[.int .i64 1, .int .i64 2, .int .i64 3] 3) _).trans G8)
  have G6 := g6.trans ((World.grownBy_alloc w6 (.cells #[.int .i64 1] 3) _).trans G7)
  have G5 := g5.trans ((World.grownBy_alloc w5 (.cells #[.int .i64 2] 3) _).trans G6)
  have G4 := g4.trans (((World.grownBy_alloc w4 (.cells #[.int .i64 1] 3) _).trans (World.grownBy_alloc _ (.cells #[.int .i64 2] 3) _)).trans G5)
  have G3 := g3.trans ((World.grownBy_alloc w3 (.cells #[.int .i64 1] 3) _).trans G4)
  have G2 := g2.trans ((World.grownBy_alloc w2 (.cells #[.int .i64 1, .int .i64 2] 3) _).trans G3)
  have G1 := g1.trans ((World.grownBy_alloc w1 (.cells #[.int .i64 1, .int .i64 2, .int .i64 3] 3) _).trans G2)
  have hB : Below w.heap.size w w8 := (((((Below.refl w.heap.size w).alloc (Nat.le_refl _) _).alloc (by simp) _).alloc (by simp; omega) _).grown G1 (by simp; omega) (fun k e => by injection e with e; omega))
  have HZ := Lib.hid (And.intro z1 (And.intro z2 (And.intro z3 (And.intro z4 (And.intro z5 (And.intro z6 (And.intro z7 z8)))))))
  clear z1 z2 z3 z4 z5 z6 z7 z8
  go_enter Tryz.func82, Tryz.ntmps82
  go_wp2_with (go_at_call 108; refine (becomes_any _ _).mono ?_; rintro e w' ⟨rfl, rfl⟩)
  go_ret
  refine ⟨⟨w.heap.size, rfl, fun k k0 k1 => ?_⟩, hB⟩
  obtain ⟨z1, z2, z3, z4, z5, z6, z7, z8⟩ := HZ.out
  have hk : k = 1 ∨ k = 2 ∨ k = 3 ∨ k = 4 ∨ k = 5 ∨ k = 6 ∨ k = 7 ∨ k = 8 := by omega
  rcases hk with rfl | rfl | rfl | rfl | rfl | rfl | rfl | rfl
  · refine ⟨.agg #[.slice (some ⟨w.heap.size + 1, 0, none⟩) 1 1, .bool false, .func (.func 122) #[] #[.pointer (some ⟨w.heap.size + 1 + 1, 0, none⟩)]], fun W hb => ?_⟩
    have oW := own_tops o8 hb (Nat.le_refl _)
    obtain ⟨v, ps, hrun, hv⟩ := oW.lookup (t := 131) keyedI' Tryz.underlying131 (zero_rule W) (zd := .held (.agg #[.slice none 0 0, .bool false, .nilFunc])) (zp := []) rfl (key := .int .i64 1) (kl := .int .i64 1) (keyOf_int_mk Tryz.underlying3 (WalkArith.wf_i64 (by omega)))
    obtain rfl := rdV_inv (u := .agg #[.slice (some ⟨w.heap.size + 1, 0, none⟩) 1 1, .bool false, .func (.func 122) #[] #[.pointer (some ⟨w.heap.size + 1 + 1, 0, none⟩)]]) hv
    refine ⟨hrun, ?_⟩
    clear hrun hv
    have GS : (((w.alloc (.map #[] 0))).alloc (.cells #[.int .i64 0] 3)).grownBy w8 (some w.heap.size) := (World.grownBy_alloc _ (.cells #[.int .i64 1] 3) _).trans G1
    have GB : ((((w.alloc (.map #[] 0))).alloc (.cells #[.int .i64 0] 3)).alloc (.cells #[.int .i64 1] 3)).grownBy w8 (some w.heap.size) := G1
    refine ⟨_, _, _, rfl, (by have := keep_slice (xs := [0]) GS hb (by simp) (by simp) rfl; rw [World.size_alloc] at this; exact this), .inl ⟨rfl, w.heap.size + 1 + 1, rfl, ?_, ?_⟩⟩
    · have := GB.size
      have := hb.1
      simp at *
      omega
    · have := keep_cells (b := w.heap.size + 1 + 1) GB hb (by simp) (by omega) (by omega) 0
      rw [this]
      go_simp
  · refine ⟨.agg #[.slice (some ⟨w1.heap.size, 0, none⟩) 3 3, .bool false, .func (.func 109) #[.pointer (some ⟨gc, 0, none⟩)] #[]], fun W hb => ?_⟩
    have oW := own_tops o8 hb (Nat.le_refl _)
    obtain ⟨v, ps, hrun, hv⟩ := oW.lookup (t := 131) keyedI' Tryz.underlying131 (zero_rule W) (zd := .held (.agg #[.slice none 0 0, .bool false, .nilFunc])) (zp := []) rfl (key := .int .i64 2) (kl := .int .i64 2) (keyOf_int_mk Tryz.underlying3 (WalkArith.wf_i64 (by omega)))
    obtain rfl := rdV_inv (u := .agg #[.slice (some ⟨w1.heap.size, 0, none⟩) 3 3, .bool false, .func (.func 109) #[.pointer (some ⟨gc, 0, none⟩)] #[]]) hv
    refine ⟨hrun, ?_⟩
    clear hrun hv
    have GS : ((w1).alloc (.cells #[.int .i64 1, .int .i64 2, .int .i64 3] 3)).grownBy w8 (some w.heap.size) := G2
    exact ⟨_, _, _, rfl, keep_slice GS hb (by omega) (by omega) rfl, .inr (.inl ⟨rfl, rfl⟩)⟩
  · refine ⟨.agg #[.slice (some ⟨w3.heap.size, 0, none⟩) 1 1, .bool false, .func (.func 111) #[.pointer (some ⟨gc, 0, none⟩)] #[]], fun W hb => ?_⟩
    have oW := own_tops o8 hb (Nat.le_refl _)
    obtain ⟨v, ps, hrun, hv⟩ := oW.lookup (t := 131) keyedI' Tryz.underlying131 (zero_rule W) (zd := .held (.agg #[.slice none 0 0, .bool false, .nilFunc])) (zp := []) rfl (key := .int .i64 3) (kl := .int .i64 3) (keyOf_int_mk Tryz.underlying3 (WalkArith.wf_i64 (by omega)))
    obtain rfl := rdV_inv (u := .agg #[.slice (some ⟨w3.heap.size, 0, none⟩) 1 1, .bool false, .func (.func 111) #[.pointer (some ⟨gc, 0, none⟩)] #[]]) hv
    refine ⟨hrun, ?_⟩
    clear hrun hv
    have GS : ((w3).alloc (.cells #[.int .i64 1] 3)).grownBy w8 (some w.heap.size) := G4
    exact ⟨_, _, _, rfl, keep_slice GS hb (by omega) (by omega) rfl, .inr (.inr (.inl ⟨rfl, rfl⟩))⟩
  · refine ⟨.agg #[.slice (some ⟨w4.heap.size, 0, none⟩) 1 1, .bool false, .func (.func 122) #[] #[.pointer (some ⟨w4.heap.size + 1, 0, none⟩)]], fun W hb => ?_⟩
    have oW := own_tops o8 hb (Nat.le_refl _)
    obtain ⟨v, ps, hrun, hv⟩ := oW.lookup (t := 131) keyedI' Tryz.underlying131 (zero_rule W) (zd := .held (.agg #[.slice none 0 0, .bool false, .nilFunc])) (zp := []) rfl (key := .int .i64 4) (kl := .int .i64 4) (keyOf_int_mk Tryz.underlying3 (WalkArith.wf_i64 (by omega)))
    obtain rfl := rdV_inv (u := .agg #[.slice (some ⟨w4.heap.size, 0, none⟩) 1 1, .bool false, .func (.func 122) #[] #[.pointer (some ⟨w4.heap.size + 1, 0, none⟩)]]) hv
    refine ⟨hrun, ?_⟩
    clear hrun hv
    have GS : ((w4).alloc (.cells #[.int .i64 1] 3)).grownBy w8 (some w.heap.size) := (World.grownBy_alloc _ (.cells #[.int .i64 2] 3) _).trans G5
    have GB : (((w4).alloc (.cells #[.int .i64 1] 3)).alloc (.cells #[.int .i64 2] 3)).grownBy w8 (some w.heap.size) := G5
    refine ⟨_, _, _, rfl, keep_slice GS hb (by omega) (by omega) rfl, .inr (.inr (.inr (.inl ⟨rfl, w4.heap.size + 1, rfl, ?_, ?_⟩)))⟩
    · have := GB.size
      have := hb.1
      simp at *
      omega
    · have := keep_cells (b := w4.heap.size + 1) GB hb (by simp) (by omega) (by omega) 0
      rw [this]
      go_simp
  · refine ⟨.agg #[.slice (some ⟨w5.heap.size, 0, none⟩) 1 1, .bool false, .func (.func 112) #[.pointer (some ⟨gc, 0, none⟩)] #[]], fun W hb => ?_⟩
    have oW := own_tops o8 hb (Nat.le_refl _)
    obtain ⟨v, ps, hrun, hv⟩ := oW.lookup (t := 131) keyedI' Tryz.underlying131 (zero_rule W) (zd := .held (.agg #[.slice none 0 0, .bool false, .nilFunc])) (zp := []) rfl (key := .int .i64 5) (kl := .int .i64 5) (keyOf_int_mk Tryz.underlying3 (WalkArith.wf_i64 (by omega)))
    obtain rfl := rdV_inv (u := .agg #[.slice (some ⟨w5.heap.size, 0, none⟩) 1 1, .bool false, .func (.func 112) #[.pointer (some ⟨gc, 0, none⟩)] #[]]) hv
    refine ⟨hrun, ?_⟩
    clear hrun hv
    have GS : ((w5).alloc (.cells #[.int .i64 2] 3)).grownBy w8 (some w.heap.size) := G6
    exact ⟨_, _, _, rfl, keep_slice GS hb (by omega) (by omega) rfl, .inr (.inr (.inr (.inr (.inl ⟨rfl, rfl⟩))))⟩
  · refine ⟨.agg #[.slice (some ⟨w6.heap.size, 0, none⟩) 1 1, .bool false, .func (.func 113) #[.pointer (some ⟨gc, 0, none⟩)] #[]], fun W hb => ?_⟩
    have oW := own_tops o8 hb (Nat.le_refl _)
    obtain ⟨v, ps, hrun, hv⟩ := oW.lookup (t := 131) keyedI' Tryz.underlying131 (zero_rule W) (zd := .held (.agg #[.slice none 0 0, .bool false, .nilFunc])) (zp := []) rfl (key := .int .i64 6) (kl := .int .i64 6) (keyOf_int_mk Tryz.underlying3 (WalkArith.wf_i64 (by omega)))
    obtain rfl := rdV_inv (u := .agg #[.slice (some ⟨w6.heap.size, 0, none⟩) 1 1, .bool false, .func (.func 113) #[.pointer (some ⟨gc, 0, none⟩)] #[]]) hv
    refine ⟨hrun, ?_⟩
    clear hrun hv
    have GS : ((w6).alloc (.cells #[.int .i64 1] 3)).grownBy w8 (some w.heap.size) := G7
    exact ⟨_, _, _, rfl, keep_slice GS hb (by omega) (by omega) rfl, .inr (.inr (.inr (.inr (.inr (.inl ⟨rfl, rfl⟩)))))⟩
  · refine ⟨.agg #[.slice (some ⟨w7.heap.size, 0, none⟩) 3 3, .bool true, .func (.func 114) #[.pointer (some ⟨gc, 0, none⟩)] #[]], fun W hb => ?_⟩
    have oW := own_tops o8 hb (Nat.le_refl _)
    obtain ⟨v, ps, hrun, hv⟩ := oW.lookup (t := 131) keyedI' Tryz.underlying131 (zero_rule W) (zd := .held (.agg #[.slice none 0 0, .bool false, .nilFunc])) (zp := []) rfl (key := .int .i64 7) (kl := .int .i64 7) (keyOf_int_mk Tryz.underlying3 (WalkArith.wf_i64 (by omega)))
    obtain rfl := rdV_inv (u := .agg #[.slice (some ⟨w7.heap.size, 0, none⟩) 3 3, .bool true, .func (.func 114) #[.pointer (some ⟨gc, 0, none⟩)] #[]]) hv
    refine ⟨hrun, ?_⟩
    clear hrun hv
    have GS : ((w7).alloc (.cells #[.int .i64 1, .int .i64 2, .int .i64 3] 3)).grownBy w8 (some w.heap.size) := G8
    exact ⟨_, _, _, rfl, keep_slice GS hb (by omega) (by omega) rfl, .inr (.inr (.inr (.inr (.inr (.inr (.inl ⟨rfl, rfl⟩))))))⟩
  · refine ⟨.agg #[.slice (some ⟨w2.heap.size, 0, none⟩) 2 2, .bool true, .func (.func 110) #[.pointer (some ⟨gc, 0, none⟩)] #[]], fun W hb => ?_⟩
    have oW := own_tops o8 hb (Nat.le_refl _)
    obtain ⟨v, ps, hrun, hv⟩ := oW.lookup (t := 131) keyedI' Tryz.underlying131 (zero_rule W) (zd := .held (.agg #[.slice none 0 0, .bool false, .nilFunc])) (zp := []) rfl (key := .int .i64 8) (kl := .int .i64 8) (keyOf_int_mk Tryz.underlying3 (WalkArith.wf_i64 (by omega)))
    obtain rfl := rdV_inv (u := .agg #[.slice (some ⟨w2.heap.size, 0, none⟩) 2 2, .bool true, .func (.func 110) #[.pointer (some ⟨gc, 0, none⟩)] #[]]) hv
    refine ⟨hrun, ?_⟩
    clear hrun hv
    have GS : ((w2).alloc (.cells #[.int .i64 1, .int .i64 2] 3)).grownBy w8 (some w.heap.size) := G3
    exact ⟨_, _, _, rfl, keep_slice GS hb (by omega) (by omega) rfl, .inr (.inr (.inr (.inr (.inr (.inr (.inr (⟨rfl, rfl⟩)))))))⟩
end Go.Proofs.YtmlhoojcdidgkaaGreat

/-
  Folio: the course of deeds, and what is moved for each stay (no Go in sight).
-/
namespace Go.Proofs.YtmlhoojcdidgkaaGreat
set_option linter.unusedSimpArgs false
set_option linter.unusedVariables false
set_option maxHeartbeats 1000000
structure EnvOk (V : Env) : Prop where
  k : conOk V.k = true
  p : partOk V.p V.d = true
inductive Steps (V : Env) (c : Crs) (x : Deed) : Crs → Prop
  | broke (k : x.kind = 9) (m : sumE (200 + x.stay) (fun _ => true) c.es ≤ 1000000000) : Steps V c x { c with day := x.day, es := c.es ++ mvL x.day (200 + x.stay) (800 + x.stay) (sumE (200 + x.stay) (fun _ => true) c.es) 0 }
  | deed (k : x.kind ≠ 9) (i : Nat) (a : Acc) (hi : idxA c.ac x.stay = some i) (ha : c.ac[i]? = some a) (ys : List Entry) (a' : Acc) (h : Deeds V c.es a x ys a') : Steps V c x { c with day := x.day, es := c.es ++ ys, ac := c.ac.set i a' }
theorem formed_iff {day : Int} {x : Deed} : formedD day x = true ↔ (1 ≤ x.kind ∧ x.kind ≤ 9) ∧ (day ≤ x.day ∧ x.day ≤ 366) ∧ (x.kind = 2 ∨ x.kind = 8 ∨ x.kind = 7 → 1 ≤ x.cents ∧ x.cents ≤ 1000000000) ∧ (x.kind = 9 → 1 ≤ x.stay ∧ x.stay ≤ 29) := by
  unfold formedD
  rw [Bool.and_eq_true, Bool.and_eq_true, inB_iff, inB_iff, and_assoc]
  refine and_congr Iff.rfl (and_congr Iff.rfl ?_)
  split
  · next h => rw [inB_iff]; exact ⟨fun g => ⟨fun _ => g, by omega⟩, fun g => g.1 h⟩
  · next h =>
    split
    · next h2 => rw [inB_iff]; exact ⟨fun g => ⟨fun h3 => absurd h3 h, fun _ => g⟩, fun g => g.2 h2⟩
    · next h2 => exact ⟨fun _ => ⟨fun h3 => absurd h3 h, fun h3 => absurd h3 h2⟩, fun _ => rfl⟩
theorem idx_at {l : List Acc} {s : Int} {i : Nat} (h : idxA l s = some i) : ∃ hi : i < l.length, l[i].b.stay = s := by
  unfold idxA at h
  rw [List.findIdx?_eq_some_iff_getElem] at h
  obtain ⟨hi, hp, _⟩ := h
  exact ⟨hi, by simpa using hp⟩
theorem idx_of {l : List Acc} (hn : (l.map fun a => a.b.stay).Nodup) {i : Nat} (hi : i < l.length) : idxA l l[i].b.stay = some i := by
  unfold idxA
  rw [List.findIdx?_eq_some_iff_getElem]
  refine ⟨hi, by simp, fun j hj => ?_⟩
  have := (List.pairwise_iff_getElem.1 hn) j i (by simp; omega) (by simpa using hi) hj
  simp at this ⊢
  exact this
theorem idx_none {l : List Acc} {s : Int} : idxA l s = none ↔ ∀ a ∈ l, a.b.stay ≠ s := by
  unfold idxA
  rw [List.findIdx?_eq_none_iff]
  simp
theorem step_of {V : Env} {c : Crs} {x : Deed} {c' : Crs} (hf : formedD c.day x = true) (h : stepD V { c with day := x.day } x = .ok c') : Steps V c x c' := by
  have hfm := formed_iff.1 hf
  unfold stepD at h
  by_cases k : x.kind = 9
  · rw [if_pos k] at h
    unfold brokeD at h
    simp only at h
    split at h
    · cases h
    · injection h with h
      subst h
      rw [mvE_eq]
      exact .broke k (by omega)
  · rw [if_neg k] at h
    cases hi : idxA c.ac x.stay with
    | none => simp only [hi] at h; cases h
    | some i =>
      simp only [hi] at h
      cases ha : c.ac[i]? with
      | none => rw [ha] at h; cases h
      | some a =>
        rw [ha] at h
        simp only at h
        split at h
        · next hs =>
          cases hd : deedD V c.es a x with
          | error e => rw [hd] at h; cases h
          | ok r =>
            rw [hd] at h
            injection h with h
            subst h
            obtain ⟨ys, e1, e2⟩ := deed_of (by omega) (by omega) hs hd
            rw [e1]
            exact .deed k i a hi ha ys r.2 e2
        · cases h
theorem Steps.mk {V : Env} {c : Crs} {x : Deed} {c' : Crs} (h : Steps V c x c') : stepD V { c with day := x.day } x = .ok c' := by
  cases h
  case broke k m =>
    unfold stepD brokeD
    rw [if_pos k]
    simp only
    rw [if_neg (by omega), mvE_eq]
  case deed k i a hi ha ys a' h =>
    obtain ⟨h1, h2⟩ := h.mk
    unfold stepD
    rw [if_neg k]
    simp only [hi, ha, h1, if_true, h2]
/-- What is known of a course and its entries. -/
theorem CrsOk.set_ac {c : Crs} {n : Nat} (h : CrsOk c n) {i : Nat} {a a' : Acc} (ha : c.ac[i]? = some a) (hb : a'.b = a.b) : ((c.ac.set i a').map fun a => a.b) = c.ac.map fun a => a.b := by
  obtain ⟨hi, e⟩ := List.getElem?_eq_some_iff.1 ha
  rw [List.map_set, hb, ← e]
  refine List.ext_getElem (by simp) fun k h1 h2 => ?_
  rw [List.getElem_set]
  split
  · next e => subst e; simp
  · rfl
theorem Steps.ok {V : Env} (hV : EnvOk V) {c : Crs} {x : Deed} {c' : Crs} {n : Nat} (hf : formedD c.day x = true) (h : Steps V c x c') (hc : CrsOk c n) : CrsOk c' (n + 1) ∧ c'.day = x.day ∧ (c'.ac.map fun a => a.b) = c.ac.map fun a => a.b := by
  obtain ⟨f1, f2, f3, f4⟩ := formed_iff.1 hf
  have hd := hc.day
  have hE : EsOk x.day c.es := ⟨fun e he => ⟨(hc.es e he).1, by have := (hc.es e he).2; omega⟩, hc.rises⟩
  have hmore : ∀ ys : List Entry, (∀ e ∈ ys, e.ok = true ∧ e.day = x.day) → EsOk x.day (c.es ++ ys) := by
    intro ys hys
    refine ⟨fun e he => ?_, List.pairwise_append.2 ⟨hc.rises, ?_, fun a ha b hb => ?_⟩⟩
    · rcases List.mem_append.1 he with he | he
      · exact hE.es e he
      · exact ⟨(hys e he).1, by have := (hys e he).2; omega⟩
    · exact List.pairwise_iff_forall_sublist.2 fun {a b} hab => by
        have h1 := (hys a (hab.subset (by simp))).2
        have h2 := (hys b (hab.subset (by simp))).2
        omega
    · have := (hE.es a ha).2
      have := (hys b hb).2
      omega
  cases h
  case broke k m =>
    have hs := f4 k
    have h1 := hmore (mvL x.day (200 + x.stay) (800 + x.stay) (sumE (200 + x.stay) (fun _ => true) c.es) 0) fun e he => by
      obtain ⟨h0, rfl⟩ := mvL_mem he
      exact ⟨Entry.ok_iff.2 ⟨by simp only; omega, by simp only; omega, by simp only; omega, by simp only; omega, ⟨by simp only; omega, m⟩, by simp⟩, rfl⟩
    have hl := mvL_len x.day (200 + x.stay) (800 + x.stay) (sumE (200 + x.stay) (fun _ => true) c.es) 0
    have := hc.len
    exact ⟨⟨by simp only; omega, h1.es, h1.rises, by simp only [List.length_append]; omega, fun a ha => ⟨(hc.ac a ha).b, (hc.ac a ha).st, by have := (hc.ac a ha).paid; omega, (hc.ac a ha).early⟩, hc.stays⟩, rfl, rfl⟩
  case deed k i a hi ha ys a' h =>
    have hac := hc.ac a (List.mem_of_getElem? ha)
    have hcents : x.kind = 2 ∨ x.kind = 7 ∨ x.kind = 8 → 1 ≤ x.cents ∧ x.cents ≤ 1000000000 := fun h => f3 (by omega)
    have h1 := hmore ys fun e he => ⟨(h.es_ok hac hV.k hV.p (by omega) (by omega) hcents e he).1, (h.es_ok hac hV.k hV.p (by omega) (by omega) hcents e he).2.1⟩
    obtain ⟨h2, h3⟩ := h.acc hac hcents
    have hl := h.len
    have := hc.len
    have hset := hc.set_ac ha h3
    refine ⟨⟨by simp only; omega, h1.es, h1.rises, by simp only [List.length_append]; omega, fun b hb => ?_, ?_⟩, rfl, hset⟩
    · rcases List.mem_or_eq_of_mem_set hb with hb | rfl
      · exact ⟨(hc.ac b hb).b, (hc.ac b hb).st, by have := (hc.ac b hb).paid; omega, (hc.ac b hb).early⟩
      · exact h2
    · have e : ∀ l : List Acc, (l.map fun a => a.b.stay) = (l.map fun a => a.b).map Bill.stay := fun l => by rw [List.map_map]; rfl
      rw [e]
      show List.Nodup (((c.ac.set i a').map fun a => a.b).map Bill.stay)
      rw [hset, ← e]
      exact hc.stays
/-! ### Runs -/
theorem payD_err {V : Env} {es : List Entry} {a : Acc} {x : Deed} {e : Int} (h : payD V es a x = .error e) : e ≠ 0 := by
  unfold payD at h
  cases hm : mostR V es a with
  | error e' =>
    rw [hm] at h
    injection h with h
    subst h
    unfold mostR at hm
    split at hm
    · cases hm
    · split at hm
      · injection hm with hm; omega
      · cases hm
  | ok m =>
    rw [hm] at h
    simp only at h
    split at h
    · injection h with h; omega
    · cases h
theorem deedD_err {V : Env} {es : List Entry} {a : Acc} {x : Deed} {e : Int} (h : deedD V es a x = .error e) : e ≠ 0 := by
  unfold deedD at h
  split at h
  · cases h
  split at h
  · exact payD_err h
  split at h
  · cases h
  split at h
  · cases h
  split at h
  · unfold leaveD at h
    split at h
    · injection h with h; omega
    · cases h
  split at h
  · unfold walkD at h
    split at h
    · injection h with h; omega
    · cases h
  split at h
  · unfold backD at h
    split at h
    · injection h with h; omega
    · cases h
  · unfold voucherD at h
    split at h
    · injection h with h; omega
    · cases h
theorem runD_cases (V : Env) (c : Crs) (er : List Int) (x : Deed) : (∃ c', formedD c.day x = true ∧ Steps V c x c' ∧ runD V (c, er) x = (c', er ++ [0])) ∨ (∃ e, e ≠ 0 ∧ runD V (c, er) x = (c, er ++ [e])) := by
  unfold runD
  by_cases hf : formedD c.day x = true
  · rw [if_pos hf]
    cases h : stepD V { c with day := x.day } x with
    | ok c' => exact .inl ⟨c', hf, step_of hf h, rfl⟩
    | error e =>
      refine .inr ⟨e, ?_, rfl⟩
      unfold stepD brokeD at h
      split at h
      · split at h
        · injection h with h; omega
        · cases h
      · split at h
        · injection h with h; omega
        · split at h
          · injection h with h; omega
          · split at h
            · next a _ _ =>
              split at h
              · next e' hd =>
                injection h with h
                subst h
                exact deedD_err hd
              · cases h
            · injection h with h; omega
  · rw [if_neg hf]
    exact .inr ⟨1, by omega, rfl⟩
theorem runAll_nil (V : Env) (bills : List Bill) : runAll V bills [] = (crs0 bills, []) := rfl
theorem runAll_snoc (V : Env) (bills : List Bill) (l : List Deed) (x : Deed) : runAll V bills (l ++ [x]) = runD V (runAll V bills l) x := by
  unfold runAll
  rw [List.foldl_append]
  rfl
theorem rev_ind {α : Type} {P : List α → Prop} (h0 : P []) (h1 : ∀ l x, P l → P (l ++ [x])) (l : List α) : P l := by
  rw [← List.reverse_reverse l]
  induction l.reverse with
  | nil => exact h0
  | cons x m ih => rw [List.reverse_cons]; exact h1 _ _ ih
theorem runOk_iff {V : Env} {bills : List Bill} : runOk V bills = true ↔ EnvOk V ∧ billsOk bills = true ∧ bills.length ≤ 3000 ∧ taxesOk V.ts = true := by
  unfold runOk
  rw [Bool.and_eq_true, Bool.and_eq_true, Bool.and_eq_true, Bool.and_eq_true, decide_eq_true_eq]
  exact ⟨fun ⟨⟨⟨⟨h1, h2⟩, h3⟩, h4⟩, h5⟩ => ⟨⟨h4, h1⟩, h2, h3, h5⟩, fun ⟨⟨h4, h1⟩, h2, h3, h5⟩ => ⟨⟨⟨⟨h1, h2⟩, h3⟩, h4⟩, h5⟩⟩
theorem crs0_ok {bills : List Bill} (h : billsOk bills = true) : CrsOk (crs0 bills) 0 := by
  obtain ⟨h1, h2⟩ := billsOk_iff.1 h
  refine ⟨by simp [crs0], by simp [crs0], List.Pairwise.nil, by simp [crs0], fun a ha => ?_, ?_⟩
  · obtain ⟨b, hb, rfl⟩ := List.mem_map.1 ha
    exact ⟨h1 b hb, by simp, by simp, by simp⟩
  · unfold crs0
    simp only [List.map_map]
    exact h2
/-- What holds behind all deeds, of prefixes too. -/
theorem run_ind {V : Env} {bills : List Bill} (P : List Deed → Crs → List Int → Prop) (h0 : P [] (crs0 bills) [])
    (hgo : ∀ l x c c' er, P l c er → formedD c.day x = true → Steps V c x c' → P (l ++ [x]) c' (er ++ [0])) (hno : ∀ l x c er e, P l c er → e ≠ 0 → P (l ++ [x]) c (er ++ [e])) (l : List Deed) : P l (runAll V bills l).1 (runAll V bills l).2 := by
  induction l using rev_ind with
  | h0 => exact h0
  | h1 l x ih =>
    rw [runAll_snoc]
    generalize runAll V bills l = s at ih ⊢
    obtain ⟨c, er⟩ := s
    rcases runD_cases V c er x with ⟨c', hf, hs, e⟩ | ⟨e0, h, e⟩
    · rw [e]; exact hgo l x c c' er ih hf hs
    · rw [e]; exact hno l x c er e0 ih h
theorem run_ok {V : Env} {bills : List Bill} (hV : EnvOk V) (hb : billsOk bills = true) (l : List Deed) : CrsOk (runAll V bills l).1 l.length ∧ (runAll V bills l).2.length = l.length ∧ ((runAll V bills l).1.ac.map fun a => a.b) = bills := by
  refine run_ind (V := V) (bills := bills) (fun l c er => CrsOk c l.length ∧ er.length = l.length ∧ (c.ac.map fun a => a.b) = bills) ⟨crs0_ok hb, rfl, by simp [crs0, Function.comp_def]⟩ ?_ ?_ l
  · rintro l x c c' er ⟨h1, h2, h3⟩ hf hs
    obtain ⟨g1, g2, g3⟩ := hs.ok hV hf h1
    rw [List.length_append]
    exact ⟨g1, by simp [h2], g3.trans h3⟩
  · rintro l x c er e ⟨h1, h2, h3⟩ he
    rw [List.length_append]
    refine ⟨⟨h1.day, h1.es, h1.rises, by have := h1.len; simp; omega, fun a ha => ⟨(h1.ac a ha).b, (h1.ac a ha).st, by have := (h1.ac a ha).paid; simp; omega, (h1.ac a ha).early⟩, h1.stays⟩, by simp [h2], h3⟩
theorem run_len {V : Env} {bills : List Bill} (l : List Deed) : (runAll V bills l).2.length = l.length := run_ind (V := V) (bills := bills) (fun l _ er => er.length = l.length) rfl (by intros; simp_all) (by intros; simp_all) l
end Go.Proofs.YtmlhoojcdidgkaaGreat
