/-
  The laws of package ledger: the head that each of them calls; their arguments.
-/
import Derived.Test.YtdbdjhgcmcbiaaaLed12
import Derived.Test.YtdbdjhgcmcbiaaaFrame
namespace Go.Proofs.Ytdbdjhgcmcbiaaa
set_option linter.unusedSimpArgs false
set_option linter.unusedVariables false
open Go.RowKit
open Go.Sort (grow size_grow)

set_option maxHeartbeats 4000000
set_option maxRecDepth 100000

/-- A list of entries and an error, written out. -/
def OutE (r : List Entry) (er : Int) (e : Ending) (w' : World) : Prop := ∃ A c, e = .returned (.tuple #[.slice A r.length c, .int .i64 er]) ∧ r.length ≤ c ∧ SlEnt w' A r
theorem post_lit {l r : List Entry} {x : Entry} {er : Int} (h : postR l x = (r, er)) (A : Option Addr) (c : Nat) (w : World) (hs : SlEnt w A l) (hl : l.length ≤ 140737488355328) :
    Calls Try.prog 26 #[.slice A l.length c, x.v] w fun e w' => OutE r er e w' ∧ Below w.heap.size w w' := by
  have := post_any l x A c w hs hl
  rw [h] at this
  exact this
theorem undo_lit {l r : List Entry} {ref day er : Int} (h : undoR l ref day = (r, er)) (A : Option Addr) (c : Nat) (w : World) (hs : SlEnt w A l) (hl : l.length ≤ 140737488355328) :
    Calls Try.prog 35 #[.slice A l.length c, .int .i64 ref, .int .i64 day] w fun e w' => OutE r er e w' ∧ Below w.heap.size w w' := by
  have := undo_any l A c ref day w hs hl
  rw [h] at this
  exact this
theorem bal_lit {l : List Entry} {a day n er : Int} (h : balR l a day = (n, er)) (A : Option Addr) (c : Nat) (w : World) (hs : SlEnt w A l) (hl : l.length ≤ 140737488355328) :
    Calls Try.prog 31 #[.slice A l.length c, .int .i64 a, .int .i64 day] w fun e w' => e = .returned (.tuple #[.int .i64 n, .int .i64 er]) ∧ Below w.heap.size w w' := by
  have := lbalance_any l A c a day w hs hl
  rw [h] at this
  exact this
theorem kind_lit {l : List Entry} {k day n er : Int} (h : kindR l k day = (n, er)) (A : Option Addr) (c : Nat) (w : World) (hs : SlEnt w A l) (hl : l.length ≤ 140737488355328) :
    Calls Try.prog 33 #[.slice A l.length c, .int .i64 k, .int .i64 day] w fun e w' => e = .returned (.tuple #[.int .i64 n, .int .i64 er]) ∧ Below w.heap.size w w' := by
  have := lkind_any l A c k day w hs hl
  rw [h] at this
  exact this
def hE1 : Entry := ⟨3, 105, 302, 8000, 7⟩
def hE2 : Entry := ⟨4, 900, 105, 5000, 7⟩
def hE3 : Entry := ⟨3, 105, 302, 8000, 0⟩
def hU1 : Entry := ⟨6, 302, 105, 8000, 7⟩
def hU2 : Entry := ⟨6, 105, 900, 5000, 7⟩
def hZ : Entry := ⟨0, 0, 0, 0, 0⟩
theorem h28_1 : postR [] hE1 = ([hE1], 0) := by decide +kernel
theorem h28_2 : postR [hE1] hE2 = ([hE1, hE2], 0) := by decide +kernel
theorem h28_3 : balR [hE1, hE2] 105 3 = (8000, 0) := by decide +kernel
theorem h28_4 : balR [hE1, hE2] 105 4 = (3000, 0) := by decide +kernel
theorem h28_5 : kindR [hE1, hE2] 3 366 = (-8000, 0) := by decide +kernel
theorem h28_6 : undoR [hE1, hE2] 7 6 = ([hE1, hE2, hU1, hU2], 0) := by decide +kernel
theorem h28_7 : balR [hE1, hE2, hU1, hU2] 105 6 = (0, 0) := by decide +kernel
theorem h28_8 : undoR [hE1, hE2, hU1, hU2] 7 6 = ([], 4) := by decide +kernel
theorem h28_9 : postR [hE1, hE2] hE3 = ([], 6) := by decide +kernel
theorem h28_10 : ledOk [hE1, hE2, hU1, hU2] = true := by decide +kernel
theorem h28_11 : ledOk [hZ] = false := by decide +kernel
def undoneCells : Array Value := #[.int .i64 6, .int .i64 302, .int .i64 105, .int .i64 8000, .int .i64 7, .int .i64 6, .int .i64 105, .int .i64 900, .int .i64 5000, .int .i64 7]
theorem undoneSl (W : World) : SlEnt (W.alloc (.cells undoneCells 49)) (some ⟨W.heap.size, 0, none⟩) [hU1, hU2] :=
  sl_of_box (cs := undoneCells) (fun _ => rfl) (fun o => World.cell?_alloc_new W undoneCells 49 o) (by simp) rfl
theorem zeroSl (W : World) : SlEnt (W.alloc (.cells #[.int .i64 0, .int .i64 0, .int .i64 0, .int .i64 0, .int .i64 0] 49)) (some ⟨W.heap.size, 0, none⟩) [hZ] :=
  sl_of_box (cs := #[.int .i64 0, .int .i64 0, .int .i64 0, .int .i64 0, .int .i64 0]) (fun _ => rfl) (fun o => World.cell?_alloc_new W _ 49 o) (by simp) rfl

theorem head28_any (w : World) : Calls Try.prog 24 #[] w fun e w' => e = .returned (.bool true) ∧ Below w.heap.size w w' := by
  go_enter Try.func24, Try.ntmps24
  go_wp2_with fail
  refine (post_lit h28_1 none 0 _ Sl.nil_ (by decide)).mono ?_
  rintro e w1 ⟨⟨A1, c1, rfl, hc1, hs1⟩, hb1⟩
  go_wp2_with fail
  refine (post_lit h28_2 A1 c1 _ hs1 (by decide)).mono ?_
  rintro e w2 ⟨⟨A2, c2, rfl, hc2, hs2⟩, hb2⟩
  go_wp2_with fail
  refine (bal_lit h28_3 A2 c2 _ hs2 (by decide)).mono ?_
  rintro e w3 ⟨rfl, hb3⟩
  go_wp2_with fail
  refine (bal_lit h28_4 A2 c2 _ (hs2.up hb3) (by decide)).mono ?_
  rintro e w4 ⟨rfl, hb4⟩
  have hb24 := below_up hb3 hb3.size hb4
  go_wp2_with fail
  refine (kind_lit h28_5 A2 c2 _ (hs2.up hb24) (by decide)).mono ?_
  rintro e w5 ⟨rfl, hb5⟩
  have hb25 := below_up hb24 hb24.size hb5
  go_wp2_with fail
  refine (undo_lit h28_6 A2 c2 _ (hs2.up hb25) (by decide)).mono ?_
  rintro e w6 ⟨⟨A6, c6, rfl, hc6, hs6⟩, hb6⟩
  have hb26 := below_up hb25 hb25.size hb6
  go_wp2_with fail
  refine (bal_lit h28_7 A6 c6 _ hs6 (by decide)).mono ?_
  rintro e w7 ⟨rfl, hb7⟩
  go_wp2_with fail
  refine (undo_lit h28_8 A6 c6 _ (hs6.up hb7) (by decide)).mono ?_
  rintro e w8 ⟨⟨A8, c8, rfl, hc8, hs8⟩, hb8⟩
  have hb68 := below_up hb7 hb7.size hb8
  have hb28 := below_up hb26 hb26.size hb68
  go_wp2_with fail
  refine (post_lit h28_9 A2 c2 _ (hs2.up hb28) (by decide)).mono ?_
  rintro e w9 ⟨⟨A9, c9, rfl, hc9, hs9⟩, hb9⟩
  have hb69 := below_up hb68 hb68.size hb9
  have hb29 := below_up hb28 hb28.size hb9
  have hb1' := hb1.size
  have hb2' := hb2.size
  have hb29' := hb29.size
  have hb09 : Below w.heap.size w w9 := below_up (below_up hb1 hb1' hb2) (by omega) hb29
  have hs69 := hs6.up hb69
  obtain ⟨b, off, rfl, hbl, _⟩ := hs69.at_ (k := 0) (by decide)
  have hc6' : 4 ≤ c6 := hc6
  have hc7 : ¬ c6 = 2 := by omega
  have hc8 : (2 : Nat) ≤ c6 := by omega
  go_wp2_with fail
  have hbA : Below w9.heap.size w9 (w9.alloc (.cells undoneCells 49)) := (Below.refl _ _).alloc (Nat.le_refl _) _
  have hx : SlEnt (w9.alloc (.cells undoneCells 49)) (some ⟨b, off + 10, none⟩) [hU1, hU2] := (hs69.up hbA).drop 2
  refine (rsame_any [hU1, hU2] [hU1, hU2] _ _ (c6 - 2) 2 (w9.alloc (.cells undoneCells 49)) hx (undoneSl w9) (by decide) (by decide)).mono ?_
  rintro e w10 ⟨rfl, hb10⟩
  rw [decide_eq_true rfl]
  have hb910 : Below w9.heap.size w9 w10 := below_up hbA hbA.size hb10
  have hz910 := hb910.size
  go_wp2_with fail
  refine (lvalid_any [hE1, hE2, hU1, hU2] _ c6 _ (hs69.up hb910) (by decide)).mono ?_
  rintro e w11 ⟨rfl, hb11⟩
  rw [h28_10]
  have hz11 := hb11.size
  go_wp2_with fail
  refine (lvalid_any [hZ] _ 1 (w11.alloc (.cells #[.int .i64 0, .int .i64 0, .int .i64 0, .int .i64 0, .int .i64 0] 49)) (zeroSl w11) (by decide)).mono ?_
  rintro e w12 ⟨rfl, hb12⟩
  rw [h28_11]
  go_wp2_with fail
  go_ret
  refine ⟨rfl, ?_⟩
  have hbz : Below w11.heap.size w11 w12 := below_up ((Below.refl _ _).alloc (Nat.le_refl _) _) (by simp) hb12
  exact below_up (below_up (below_up hb09 hb09.size hb910) (by omega) hb11) (by omega) hbz

section
open Go.ChangeShapes Go.WideShapes Go.ChangeAt Go.Deep
theorem dec_ent (cs : List Value) (h : cs.length = 5) (hc : ∀ (i : Nat) (c : Value), cs[i]? = some c → isI64 c) : ∃ t : Entry, cs = t.cs := by
  match cs, h with
  | [a, b, c, d, e], _ =>
    obtain ⟨a, rfl, _⟩ := hc 0 _ rfl
    obtain ⟨b, rfl, _⟩ := hc 1 _ rfl
    obtain ⟨c, rfl, _⟩ := hc 2 _ rfl
    obtain ⟨d, rfl, _⟩ := hc 3 _ rfl
    obtain ⟨e, rfl, _⟩ := hc 4 _ rfl
    exact ⟨⟨a, b, c, d, e⟩, rfl⟩
variable {H : Type} {enc : TypeId × Value → H} {w : World} {r : Reach} {b0 : Nat} {v : Value} {d : DataW H} {p : List MemPlace}
theorem arg_ent (hv : Value.okWide Try.prog w r b0 49 v) (h : DataW.Trod enc Try.prog w 0 (fun _ => true) true 49 v d p) : ∃ t : Entry, v = t.v := by
  obtain ⟨cs, rfl, hsz, hc⟩ := open_ints (n := 4) Try.underlying49 (by kernel_rfl) hv h
  obtain ⟨l⟩ := cs
  obtain ⟨t, ht⟩ := dec_ent l (hsz.trans (by kernel_rfl)) (fun i c hi => hc i c (by simpa using hi))
  exact ⟨t, by rw [ht]; rfl⟩
theorem arg_ents (hv : Value.okWide Try.prog w r b0 47 v) (h : DataW.Trod enc Try.prog w 0 (fun _ => true) true 47 v d p) : ∃ (A : Option Addr) (l : List Entry) (c : Nat), v = .slice A l.length c ∧ SlEnt w A l ∧ l.length ≤ maxLen :=
  open_slice_ints (n := 4) (size := 5) (code := Entry.cs) Try.underlying47 (by kernel_rfl) (by kernel_rfl) (by decide) dec_ent hv h
end
end Go.Proofs.Ytdbdjhgcmcbiaaa
