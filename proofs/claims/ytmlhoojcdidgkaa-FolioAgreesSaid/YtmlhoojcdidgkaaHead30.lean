/-
  The laws of package commission: the head that each of them calls.
-/
import Derived.Test.YtmlhoojcdidgkaaCom12
import Derived.Deep.RegionLawGrows
namespace Go.Proofs.Ytmlhoojcdidgkaa
set_option linter.unusedSimpArgs false
set_option linter.unusedVariables false
open Go.RowKit Go.Maps
open Go.Sort (grow size_grow)

set_option maxHeartbeats 4000000
set_option maxRecDepth 100000
theorem cagrees_any (p d : Int) (l : List Bill) (A : Option Addr) (c : Nat) (ch : Int) (st : List Int) (B : Option Addr) (cB : Nat) (es : List Entry) (E : Option Addr) (cE : Nat) (w : World)
    (hs : SlBill w A l) (hl0 : l.length ≤ maxLen) (hst : SlInt w B st) (hst0 : st.length ≤ maxLen) (hse : SlEnt w E es) (hse0 : es.length ≤ 140737488355328) :
    Calls Try.prog 27 #[.agg #[.int .i64 p, .int .i64 d], .slice A l.length c, .int .i64 ch, .slice B st.length cB, .slice E es.length cE] w fun e w' => RetBE (agreesR p d l ch st es) e ∧ Below w.heap.size w w' := by
  rcases stmtR_cases p d l ch with ⟨er, hr, her⟩ | ⟨h0, h1, h2, h3, h4, hr⟩
  · exact cagrees_err p d l A c ch st B cB es E cE w er hs hl0 hr her
  · cases hk : ledOk es
    · exact cagrees_bad p d l A c ch st B cB es E cE w hs hl0 hse hse0 _ _ hr hk
    · obtain ⟨g0, g1⟩ := inB_iff.1 h3
      obtain ⟨L, hL⟩ := bok_of (billsOk_iff.1 h2).1
      have e1 : (ofB L ch).map (·.1) = ofCh l ch := by rw [ofB_map, hL]
      refine cagrees_ok p d l L hL A c ch st B cB es E cE w hs hl0 hst hst0 hse h0 h2 g0 g1 hk _ _ hr ?_ _ rfl ?_
      · rw [← e1]; unfold comms; simp
      · unfold agreesR
        rw [hr, hk, e1]
        simp
theorem cagrees_lit {p d ch er : Int} {l : List Bill} {st : List Int} {es : List Entry} {x : Bool} (h : agreesR p d l ch st es = (x, er)) (A : Option Addr) (c : Nat) (B : Option Addr) (cB : Nat) (E : Option Addr) (cE : Nat) (w : World)
    (hs : SlBill w A l) (hl0 : l.length ≤ maxLen) (hst : SlInt w B st) (hst0 : st.length ≤ maxLen) (hse : SlEnt w E es) (hse0 : es.length ≤ 140737488355328) :
    Calls Try.prog 27 #[.agg #[.int .i64 p, .int .i64 d], .slice A l.length c, .int .i64 ch, .slice B st.length cB, .slice E es.length cE] w fun e w' => e = .returned (.tuple #[.bool x, .int .i64 er]) ∧ Below w.heap.size w w' := by
  have := cagrees_any p d l A c ch st B cB es E cE w hs hl0 hst hst0 hse hse0
  rw [h] at this
  exact this
def mkB (s ch n : Int) : Bill := ⟨s, ch, 1, 1, 3, 5, 2, n, 0⟩
def lB : List Bill := [mkB 7 4 1050, mkB 8 5 990, mkB 9 4 1010]
def eL1 : Entry := ⟨1, 704, 301, 158, 7⟩
def eL2 : Entry := ⟨2, 704, 301, 152, 9⟩
def zeroE : Entry := ⟨0, 0, 0, 0, 0⟩
theorem h30_1 : oneR 3 20 (mkB 7 4 1050) = (158, 0) := by decide +kernel
theorem h30_2 : stmtR 3 20 lB 4 = ([158, 152], 310, 0) := by decide +kernel
theorem h30_3 : agreesR 3 20 lB 4 [158, 152] [eL1, eL2] = (true, 0) := by decide +kernel
theorem h30_4 : agreesR 3 20 lB 4 [158, 152] [eL1] = (false, 0) := by decide +kernel
theorem h30_5 : agreesR 3 20 lB 5 [148] [eL1, eL2] = (false, 0) := by decide +kernel
theorem h30_6 : oneR 3 2 (mkB 7 4 1050) = (0, 1) := by decide +kernel
theorem h30_7 : stmtR 3 20 (lB ++ [mkB 7 4 1050]) 4 = ([], 0, 1) := by decide +kernel
theorem h30_8 : agreesR 3 20 lB 4 [158, 152] [zeroE] = (false, 1) := by decide +kernel
def lCells : Array Value := #[.int .i64 7, .int .i64 4, .int .i64 1, .int .i64 1, .int .i64 3, .int .i64 5, .int .i64 2, .int .i64 1050, .int .i64 0, .int .i64 8, .int .i64 5, .int .i64 1, .int .i64 1, .int .i64 3, .int .i64 5, .int .i64 2, .int .i64 990, .int .i64 0, .int .i64 9, .int .i64 4, .int .i64 1, .int .i64 1, .int .i64 3, .int .i64 5, .int .i64 2, .int .i64 1010, .int .i64 0]
def eCells : Array Value := #[.int .i64 1, .int .i64 704, .int .i64 301, .int .i64 158, .int .i64 7, .int .i64 2, .int .i64 704, .int .i64 301, .int .i64 152, .int .i64 9]
theorem lSl (W : World) : SlBill (W.alloc (.cells lCells 44)) (some ⟨W.heap.size, 0, none⟩) lB :=
  sl_of_box (cs := lCells) (fun _ => rfl) (fun o => World.cell?_alloc_new W lCells 44 o) (by simp) rfl
theorem eSl (W : World) : SlEnt (W.alloc (.cells eCells 46)) (some ⟨W.heap.size, 0, none⟩) [eL1, eL2] :=
  sl_of_box (cs := eCells) (fun _ => rfl) (fun o => World.cell?_alloc_new W eCells 46 o) (by simp) rfl
/-- append of one element to a slice that is full, as one step of a region that draws. -/
theorem step_full {α : Type} {P : Program} {w : World} {t e : TypeId} {size bytes : Nat} {enc : α → List Value} {L : List α} {ops : Array Oper} {o : Oper} {a : Act} {K : Act → World → Prop} {Q : Exit → Act → World → Prop} {E0 : Prop} (hgd : o.guard = none) (s x : Operand)
    (ho : o.op = .call { callee := .builtin .append, args := #[s, x], argTypes := #[t, t] }) (E : Elem P t e size bytes) (he : ∀ y, (enc y).length = size) (hone : ∀ y, ∀ u ∈ enc y, u.oneCell' = true) (b off cap Bd : Nat) (hs : a.eval s = .slice (some ⟨b, off, none⟩) L.length cap) (hL : Sl w Bd size enc (some ⟨b, off, none⟩) L)
    (g c : Nat) (y : α) (hx : a.eval x = .slice (some ⟨g, 0, none⟩) 1 c) (hc : ∀ j u, (enc y)[j]? = some u → w.cell? ⟨g, j, none⟩ = some u) (hfull : cap < L.length + 1) (hn : L.length ≤ 100000000) (hby : bytes ≤ 1000)
    (h : ∀ v' w', OwnL w' w.heap.size e size enc v' (L ++ [y]) → w.grownBy w' none → K (a.put o.dst v') w') : if Region.wanted o (yielded ops a.tmps) = true then Oper.wp P o a w K Q else E0 := by
  obtain ⟨ht, i, z, hi, hz, h1, h2, h3, h4⟩ := E
  refine step_append_grows hgd s x t ho e i z size bytes ht hi hz h1 h2 h3 h4 (some ⟨b, off, none⟩) L.length cap (L.flatMap enc) hs (fun e => by cases e) (flat_len he L) (fun ad e j u hu => ?_) ⟨g, 0, none⟩ 1 c (enc y) hx (by rw [he, Nat.one_mul]) (fun j u hu => ?_) (hone y) hfull (by unfold maxLen; omega) ?_ (fun v' w' h1 h2 => h v' w' ?_ h2)
  · injection e with e
    subst e
    obtain ⟨k, hk, r, rfl, hr, hu'⟩ := flat_at he hu
    have e1 : (⟨b, off, none⟩ : Addr).add (k * size + r) = ⟨b, off + k * size + r, none⟩ := by unfold Addr.add; split <;> simp_all; omega
    rw [e1]
    exact (hL.cells hk).2 r u hu'
  · have e1 : (⟨g, 0, none⟩ : Addr).add j = ⟨g, j, none⟩ := by unfold Addr.add; split <;> simp_all
    rw [e1]
    exact hc j u hu
  · have := Nat.mul_le_mul (show L.length + 1 ≤ 100000001 by omega) hby
    omega
  · unfold OwnL
    rw [List.length_append, List.flatMap_append, List.flatMap_singleton]
    exact h1
end Go.Proofs.Ytmlhoojcdidgkaa
