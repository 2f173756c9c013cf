/-
  The laws of package ledger: the head that each of them calls; their arguments.
-/
import Derived.Test.YthnncojbckifnaaLed12
import Derived.Test.YthnncojbckifnaaFrame
namespace Go.Proofs.Ythnncojbckifnaa
set_option linter.unusedSimpArgs false
set_option linter.unusedVariables false
open Go.RowKit
open Go.Sort (grow size_grow)

set_option maxHeartbeats 4000000
set_option maxRecDepth 100000

/-- A list of entries and an error, written out. -/
def OutE (r : List Entry) (er : Int) (e : Ending) (w' : World) : Prop := ∃ A c, e = .returned (.tuple #[.slice A r.length c, .int .i64 er]) ∧ r.length ≤ c ∧ SlEnt w' A r
theorem post_lit {l r : List Entry} {x : Entry} {er : Int} (h : postR l x = (r, er)) (A : Option Addr) (c : Nat) (w : World) (hs : SlEnt w A l) (hl : l.length ≤ 140737488355328) :
    Calls Try.prog 35 #[.slice A l.length c, x.v] w fun e w' => OutE r er e w' ∧ Below w.heap.size w w' := by
  have := post_any l x A c w hs hl
  rw [h] at this
  exact this
theorem undo_lit {l r : List Entry} {ref day er : Int} (h : undoR l ref day = (r, er)) (A : Option Addr) (c : Nat) (w : World) (hs : SlEnt w A l) (hl : l.length ≤ 140737488355328) :
    Calls Try.prog 40 #[.slice A l.length c, .int .i64 ref, .int .i64 day] w fun e w' => OutE r er e w' ∧ Below w.heap.size w w' := by
  have := undo_any l A c ref day w hs hl
  rw [h] at this
  exact this
theorem bal_lit {l : List Entry} {a day n er : Int} (h : balR l a day = (n, er)) (A : Option Addr) (c : Nat) (w : World) (hs : SlEnt w A l) (hl : l.length ≤ 140737488355328) :
    Calls Try.prog 39 #[.slice A l.length c, .int .i64 a, .int .i64 day] w fun e w' => e = .returned (.tuple #[.int .i64 n, .int .i64 er]) ∧ Below w.heap.size w w' := by
  have := lbalance_any l A c a day w hs hl
  rw [h] at this
  exact this
def hE1 : Entry := ⟨3, 105, 302, 8000, 7⟩
def hE2 : Entry := ⟨4, 900, 105, 5000, 7⟩
def hE3 : Entry := ⟨3, 105, 302, 8000, 0⟩
def hU1 : Entry := ⟨6, 302, 105, 8000, 7⟩
def hU2 : Entry := ⟨6, 105, 900, 5000, 7⟩
def hZ : Entry := ⟨0, 0, 0, 0, 0⟩
theorem h28_1 : postR [] hE1 = ([hE1], 0) := by decide +kernel
theorem h28_2 : postR [hE1] hE2 = ([hE1, hE2], 0) := by decide +kernel
theorem h28_3 : balR [hE1, hE2] 105 3 = (8000, 0) := by decide +kernel
theorem h28_4 : balR [hE1, hE2] 105 4 = (3000, 0) := by decide +kernel
theorem h28_5 : kindR [hE1, hE2] 3 366 = (-8000, 0) := by decide +kernel
theorem h28_6 : undoR [hE1, hE2] 7 6 = ([hE1, hE2, hU1, hU2], 0) := by decide +kernel
theorem h28_7 : balR [hE1, hE2, hU1, hU2] 105 6 = (0, 0) := by decide +kernel
theorem h28_8 : undoR [hE1, hE2, hU1, hU2] 7 6 = ([], 4) := by decide +kernel
theorem h28_9 : postR [hE1, hE2] hE3 = ([], 6) := by decide +kernel
theorem h28_10 : ledOk [hE1, hE2, hU1, hU2] = true := by decide +kernel
theorem h28_11 : ledOk [hZ] = false := by decide +kernel
def undoneCells : Array Value := #[.int .i64 6, .int .i64 302, .int .i64 105, .int .i64 8000, .int .i64 7, .int .i64 6, .int .i64 105, .int .i64 900, .int .i64 5000, .int .i64 7]
theorem undoneSl (W : World) : SlEnt (W.alloc (.cells undoneCells 63)) (some ⟨W.heap.size, 0, none⟩) [hU1, hU2] :=
  sl_of_box (cs := undoneCells) (fun _ => rfl) (fun o => World.cell?_alloc_new W undoneCells 63 o) (by simp) rfl
theorem zeroSl (W : World) : SlEnt (W.alloc (.cells #[.int .i64 0, .int .i64 0, .int .i64 0, .int .i64 0, .int .i64 0] 63)) (some ⟨W.heap.size, 0, none⟩) [hZ] :=
  sl_of_box (cs := #[.int .i64 0, .int .i64 0, .int .i64 0, .int .i64 0, .int .i64 0]) (fun _ => rfl) (fun o => World.cell?_alloc_new W _ 63 o) (by simp) rfl

section
open Go.ChangeShapes Go.WideShapes Go.ChangeAt Go.Deep
theorem dec_ent (cs : List Value) (h : cs.length = 5) (hc : ∀ (i : Nat) (c : Value), cs[i]? = some c → isI64 c) : ∃ t : Entry, cs = t.cs := by
  match cs, h with
  | [a, b, c, d, e], _ =>
    obtain ⟨a, rfl, _⟩ := hc 0 _ rfl
    obtain ⟨b, rfl, _⟩ := hc 1 _ rfl
    obtain ⟨c, rfl, _⟩ := hc 2 _ rfl
    obtain ⟨d, rfl, _⟩ := hc 3 _ rfl
    obtain ⟨e, rfl, _⟩ := hc 4 _ rfl
    exact ⟨⟨a, b, c, d, e⟩, rfl⟩
variable {H : Type} {enc : TypeId × Value → H} {w : World} {r : Reach} {b0 : Nat} {v : Value} {d : DataW H} {p : List MemPlace}
theorem arg_ent (hv : Value.okWide Try.prog w r b0 63 v) (h : DataW.Trod enc Try.prog w 0 (fun _ => true) true 63 v d p) : ∃ t : Entry, v = t.v := by
  obtain ⟨cs, rfl, hsz, hc⟩ := open_ints (n := 4) Try.underlying63 (by kernel_rfl) hv h
  obtain ⟨l⟩ := cs
  obtain ⟨t, ht⟩ := dec_ent l (hsz.trans (by kernel_rfl)) (fun i c hi => hc i c (by simpa using hi))
  exact ⟨t, by rw [ht]; rfl⟩
theorem arg_ents (hv : Value.okWide Try.prog w r b0 31 v) (h : DataW.Trod enc Try.prog w 0 (fun _ => true) true 31 v d p) : ∃ (A : Option Addr) (l : List Entry) (c : Nat), v = .slice A l.length c ∧ SlEnt w A l ∧ l.length ≤ maxLen :=
  open_slice_ints (n := 4) (size := 5) (code := Entry.cs) Try.underlying31 (by kernel_rfl) (by kernel_rfl) (by decide) dec_ent hv h
end
end Go.Proofs.Ythnncojbckifnaa
