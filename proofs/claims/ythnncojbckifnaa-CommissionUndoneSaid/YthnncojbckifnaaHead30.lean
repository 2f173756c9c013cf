/-
  The laws of package commission: the head that each of them calls.
-/
import Derived.Test.YthnncojbckifnaaCom12
import Derived.Deep.RegionLawGrows
namespace Go.Proofs.Ythnncojbckifnaa
set_option linter.unusedSimpArgs false
set_option linter.unusedVariables false
open Go.RowKit Go.Maps
open Go.Sort (grow size_grow)

set_option maxHeartbeats 4000000
set_option maxRecDepth 100000
theorem cagrees_any (p d : Int) (l : List Bill) (A : Option Addr) (c : Nat) (ch : Int) (st : List Int) (B : Option Addr) (cB : Nat) (es : List Entry) (E : Option Addr) (cE : Nat) (w : World)
    (hs : SlBill w A l) (hl0 : l.length ≤ maxLen) (hst : SlInt w B st) (hst0 : st.length ≤ maxLen) (hse : SlEnt w E es) (hse0 : es.length ≤ 140737488355328) :
    Calls Try.prog 29 #[.agg #[.int .i64 p, .int .i64 d], .slice A l.length c, .int .i64 ch, .slice B st.length cB, .slice E es.length cE] w fun e w' => RetBE (agreesR p d l ch st es) e ∧ Below w.heap.size w w' := by
  rcases stmtR_cases p d l ch with ⟨er, hr, her⟩ | ⟨h0, h1, h2, h3, h4, hr⟩
  · exact cagrees_err p d l A c ch st B cB es E cE w er hs hl0 hr her
  · cases hk : ledOk es
    · exact cagrees_bad p d l A c ch st B cB es E cE w hs hl0 hse hse0 _ _ hr hk
    · obtain ⟨g0, g1⟩ := inB_iff.1 h3
      obtain ⟨L, hL⟩ := bok_of (billsOk_iff.1 h2).1
      have e1 : (ofB L ch).map (·.1) = ofCh l ch := by rw [ofB_map, hL]
      refine cagrees_ok p d l L hL A c ch st B cB es E cE w hs hl0 hst hst0 hse h0 h2 g0 g1 hk _ _ hr ?_ _ rfl ?_
      · rw [← e1]; unfold comms; simp
      · unfold agreesR
        rw [hr, hk, e1]
        simp
theorem cagrees_lit {p d ch er : Int} {l : List Bill} {st : List Int} {es : List Entry} {x : Bool} (h : agreesR p d l ch st es = (x, er)) (A : Option Addr) (c : Nat) (B : Option Addr) (cB : Nat) (E : Option Addr) (cE : Nat) (w : World)
    (hs : SlBill w A l) (hl0 : l.length ≤ maxLen) (hst : SlInt w B st) (hst0 : st.length ≤ maxLen) (hse : SlEnt w E es) (hse0 : es.length ≤ 140737488355328) :
    Calls Try.prog 29 #[.agg #[.int .i64 p, .int .i64 d], .slice A l.length c, .int .i64 ch, .slice B st.length cB, .slice E es.length cE] w fun e w' => e = .returned (.tuple #[.bool x, .int .i64 er]) ∧ Below w.heap.size w w' := by
  have := cagrees_any p d l A c ch st B cB es E cE w hs hl0 hst hst0 hse hse0
  rw [h] at this
  exact this
theorem ragrees_lit {p d ch er : Int} {l : List Bill} {st : List Int} {es : List Entry} {x : Bool} (h : agreesR p d l ch st es = (x, er)) (A : Option Addr) (c : Nat) (B : Option Addr) (cB : Nat) (E : Option Addr) (cE : Nat) (w : World)
    (hs : SlBill w A l) (hl0 : l.length ≤ maxLen) (c0 : -9223372036854775808 ≤ ch) (c1 : ch ≤ 9223372036854775807) (hst : SlInt w B st) (hst0 : st.length ≤ maxLen) (hse : SlEnt w E es) (hse0 : es.length ≤ 140737488355328) :
    Calls Try.prog 30 #[.agg #[.int .i64 p, .int .i64 d], .slice A l.length c, .int .i64 ch, .slice B st.length cB, .slice E es.length cE] w fun e w' => e = .returned (.tuple #[.bool x, .int .i64 er]) ∧ Below w.heap.size w w' := by
  have := ragrees_any p d l A c ch st B cB es E cE w hs hl0 c0 c1 hst hst0 hse hse0
  rw [h] at this
  exact this
def mkB (s ch n : Int) : Bill := ⟨s, ch, 1, 1, 3, 5, 2, n, 0⟩
def lB : List Bill := [mkB 7 4 1050, mkB 8 5 990, mkB 9 4 1010]
def eL1 : Entry := ⟨1, 704, 301, 158, 7⟩
def eL2 : Entry := ⟨2, 704, 301, 152, 9⟩
def zeroE : Entry := ⟨0, 0, 0, 0, 0⟩
theorem h30_1 : oneR 3 20 (mkB 7 4 1050) = (158, 0) := by decide +kernel
theorem h30_2 : stmtR 3 20 lB 4 = ([158, 152], 310, 0) := by decide +kernel
theorem h30_3 : agreesR 3 20 lB 4 [158, 152] [eL1, eL2] = (true, 0) := by decide +kernel
theorem h30_4 : agreesR 3 20 lB 4 [158, 152] [eL1] = (false, 0) := by decide +kernel
theorem h30_5 : agreesR 3 20 lB 5 [148] [eL1, eL2] = (false, 0) := by decide +kernel
theorem h30_6 : oneR 3 2 (mkB 7 4 1050) = (0, 1) := by decide +kernel
theorem h30_7 : stmtR 3 20 (lB ++ [mkB 7 4 1050]) 4 = ([], 0, 1) := by decide +kernel
theorem h30_8 : agreesR 3 20 lB 4 [158, 152] [zeroE] = (false, 1) := by decide +kernel
theorem bill30_any (s ch n : Int) (w : World) : Calls Try.prog 48 #[.int .i64 s, .int .i64 ch, .int .i64 n] w fun e w' => e = .returned (mkB s ch n).v ∧ Below w.heap.size w w' := by
  go_enter Try.func48, Try.ntmps48
  go_wp2
  refine bodyPost_ret (v := (mkB s ch n).v) (by simp [results, Try.results48, go_sem, mkB]) rfl ⟨rfl, ?_⟩
  repeat' (first
    | (with_reducible exact Below.refl _ _)
    | (with_reducible assumption)
    | (with_reducible refine below_drewN ?_ _)
    | (with_reducible refine Below.drew ?_)
    | (with_reducible refine below_regrown_up _ _ ?_ ?_)
    | (with_reducible refine Below.alloc ?_ ?_ _)
    | (with_reducible refine Below.setCell ?_ ?_ _)
    | (with_reducible refine below_up ?_ ?_ (by assumption))
    | (with_reducible exact Nat.le_refl _)
    | omega
    | (simp; done)
    | (simp; omega))
def lCells : Array Value := #[.int .i64 7, .int .i64 4, .int .i64 1, .int .i64 1, .int .i64 3, .int .i64 5, .int .i64 2, .int .i64 1050, .int .i64 0, .int .i64 8, .int .i64 5, .int .i64 1, .int .i64 1, .int .i64 3, .int .i64 5, .int .i64 2, .int .i64 990, .int .i64 0, .int .i64 9, .int .i64 4, .int .i64 1, .int .i64 1, .int .i64 3, .int .i64 5, .int .i64 2, .int .i64 1010, .int .i64 0]
def eCells : Array Value := #[.int .i64 1, .int .i64 704, .int .i64 301, .int .i64 158, .int .i64 7, .int .i64 2, .int .i64 704, .int .i64 301, .int .i64 152, .int .i64 9]
theorem lSl (W : World) : SlBill (W.alloc (.cells lCells 25)) (some ⟨W.heap.size, 0, none⟩) lB :=
  sl_of_box (cs := lCells) (fun _ => rfl) (fun o => World.cell?_alloc_new W lCells 25 o) (by simp) rfl
theorem eSl (W : World) : SlEnt (W.alloc (.cells eCells 63)) (some ⟨W.heap.size, 0, none⟩) [eL1, eL2] :=
  sl_of_box (cs := eCells) (fun _ => rfl) (fun o => World.cell?_alloc_new W eCells 63 o) (by simp) rfl
/-- append of one element to a slice that is full, as one step of a region that draws. -/
theorem step_full {α : Type} {P : Program} {w : World} {t e : TypeId} {size bytes : Nat} {enc : α → List Value} {L : List α} {ops : Array Oper} {o : Oper} {a : Act} {K : Act → World → Prop} {Q : Exit → Act → World → Prop} {E0 : Prop} (hgd : o.guard = none) (s x : Operand)
    (ho : o.op = .call { callee := .builtin .append, args := #[s, x], argTypes := #[t, t] }) (E : Elem P t e size bytes) (he : ∀ y, (enc y).length = size) (hone : ∀ y, ∀ u ∈ enc y, u.oneCell' = true) (b off cap Bd : Nat) (hs : a.eval s = .slice (some ⟨b, off, none⟩) L.length cap) (hL : Sl w Bd size enc (some ⟨b, off, none⟩) L)
    (g c : Nat) (y : α) (hx : a.eval x = .slice (some ⟨g, 0, none⟩) 1 c) (hc : ∀ j u, (enc y)[j]? = some u → w.cell? ⟨g, j, none⟩ = some u) (hfull : cap < L.length + 1) (hn : L.length ≤ 100000000) (hby : bytes ≤ 1000)
    (h : ∀ v' w', OwnL w' w.heap.size e size enc v' (L ++ [y]) → w.grownBy w' none → K (a.put o.dst v') w') : if Region.wanted o (yielded ops a.tmps) = true then Oper.wp P o a w K Q else E0 := by
  obtain ⟨ht, i, z, hi, hz, h1, h2, h3, h4⟩ := E
  refine step_append_grows hgd s x t ho e i z size bytes ht hi hz h1 h2 h3 h4 (some ⟨b, off, none⟩) L.length cap (L.flatMap enc) hs (fun e => by cases e) (flat_len he L) (fun ad e j u hu => ?_) ⟨g, 0, none⟩ 1 c (enc y) hx (by rw [he, Nat.one_mul]) (fun j u hu => ?_) (hone y) hfull (by unfold maxLen; omega) ?_ (fun v' w' h1 h2 => h v' w' ?_ h2)
  · injection e with e
    subst e
    obtain ⟨k, hk, r, rfl, hr, hu'⟩ := flat_at he hu
    have e1 : (⟨b, off, none⟩ : Addr).add (k * size + r) = ⟨b, off + k * size + r, none⟩ := by unfold Addr.add; split <;> simp_all; omega
    rw [e1]
    exact (hL.cells hk).2 r u hu'
  · have e1 : (⟨g, 0, none⟩ : Addr).add j = ⟨g, j, none⟩ := by unfold Addr.add; split <;> simp_all
    rw [e1]
    exact hc j u hu
  · have := Nat.mul_le_mul (show L.length + 1 ≤ 100000001 by omega) hby
    omega
  · unfold OwnL
    rw [List.length_append, List.flatMap_append, List.flatMap_singleton]
    exact h1
theorem head30_any (w : World) : Calls Try.prog 23 #[] w fun e w' => e = .returned (.bool true) ∧ Below w.heap.size w w' := by
  go_enter Try.func23, Try.ntmps23
  go_wp2_with fail
  refine (bill30_any 7 4 1050 _).mono ?_
  rintro e w1 ⟨rfl, hb1⟩; have hz1 := hb1.size; (try simp only [World.size_alloc, World.size_setCell, World.size_drew, size_drewN', size_grow, size_redrawn] at hz1); obtain ⟨hc1, hf1⟩ := bcellB (B := w.heap.size + 1) hb1 (by first | omega | (simp only [World.size_alloc, World.size_setCell, World.size_drew, size_drewN', size_grow, size_redrawn]; omega))
  go_wp2_with fail
  refine (bill30_any 8 5 990 _).mono ?_
  rintro e w2 ⟨rfl, hb2⟩; have hz2 := hb2.size; (try simp only [World.size_alloc, World.size_setCell, World.size_drew, size_drewN', size_grow, size_redrawn] at hz2); obtain ⟨hc2, hf2⟩ := bcellB (B := w.heap.size + 1) hb2 (by first | omega | (simp only [World.size_alloc, World.size_setCell, World.size_drew, size_drewN', size_grow, size_redrawn]; omega))
  go_wp2_with fail
  refine (bill30_any 9 4 1010 _).mono ?_
  rintro e w3 ⟨rfl, hb3⟩; have hz3 := hb3.size; (try simp only [World.size_alloc, World.size_setCell, World.size_drew, size_drewN', size_grow, size_redrawn] at hz3); obtain ⟨hc3, hf3⟩ := bcellB (B := w.heap.size + 1) hb3 (by first | omega | (simp only [World.size_alloc, World.size_setCell, World.size_drew, size_drewN', size_grow, size_redrawn]; omega))
  unfold mkB Bill.v
  go_wp2_with fail
  have hB1 : Below w.heap.size w w1 := (by repeat' (first | (with_reducible exact Below.refl _ _) | (with_reducible assumption) | (with_reducible refine below_drewN ?_ _) | (with_reducible refine Below.drew ?_) | (with_reducible refine below_regrown_up _ _ ?_ ?_) | (with_reducible refine Below.alloc ?_ ?_ _) | (with_reducible refine Below.setCell ?_ ?_ _) | (with_reducible refine below_up ?_ ?_ (by assumption)) | (with_reducible exact Nat.le_refl _) | omega | (simp; done) | (simp; omega)))
  have hB3 := below_up (below_up hB1 hB1.size hb2) (by omega) hb3
  refine name_world (fun w4 hw4 => ?_)
  have hb4 : Below w3.heap.size w3 w4 := by rw [hw4]; exact (Below.refl _ _).alloc (Nat.le_refl _) _
  have hz4 : w4.heap.size = w3.heap.size + 1 := by rw [hw4]; simp
  have hsl : SlBill w4 (some ⟨w3.heap.size, 0, none⟩) lB := by rw [hw4]; exact lSl w3
  have hB4 := below_up hB3 (by omega) hb4
  obtain ⟨hc4, hf4⟩ := bcellB (B := w.heap.size + 1) hb4 (by omega)
  have x0 : w4.cell? ⟨w.heap.size, 0, none⟩ = some (.int .i64 3) := by rw [hc4 _ _ (by omega)]; go_simp
  have x1 : w4.cell? ⟨w.heap.size, 1, none⟩ = some (.int .i64 20) := by rw [hc4 _ _ (by omega)]; go_simp
  have y0 : w4.cell? ⟨w3.heap.size, 0, none⟩ = some (.int .i64 7) := by rw [hw4]; go_simp
  have y1 : w4.cell? ⟨w3.heap.size, 1, none⟩ = some (.int .i64 4) := by rw [hw4]; go_simp
  have y2 : w4.cell? ⟨w3.heap.size, 2, none⟩ = some (.int .i64 1) := by rw [hw4]; go_simp
  have y3 : w4.cell? ⟨w3.heap.size, 3, none⟩ = some (.int .i64 1) := by rw [hw4]; go_simp
  have y4 : w4.cell? ⟨w3.heap.size, 4, none⟩ = some (.int .i64 3) := by rw [hw4]; go_simp
  have y5 : w4.cell? ⟨w3.heap.size, 5, none⟩ = some (.int .i64 5) := by rw [hw4]; go_simp
  have y6 : w4.cell? ⟨w3.heap.size, 6, none⟩ = some (.int .i64 2) := by rw [hw4]; go_simp
  have y7 : w4.cell? ⟨w3.heap.size, 7, none⟩ = some (.int .i64 1050) := by rw [hw4]; go_simp
  have y8 : w4.cell? ⟨w3.heap.size, 8, none⟩ = some (.int .i64 0) := by rw [hw4]; go_simp
  have hown4 : OwnL w4 w3.heap.size 25 9 Bill.cs (.slice (some ⟨w3.heap.size, 0, none⟩) lB.length 3) lB := by
    rw [hw4]
    exact OwnL.of_block (cs := lCells) (heap_alloc_new _ _) (Nat.le_refl _) rfl (by decide) rfl (fun _ => rfl)
  have lt1 : w.heap.size < w3.heap.size + 1 := by omega
  have lt2 : w3.heap.size < w3.heap.size + 1 := by omega
  have lt3 : w.heap.size < w4.heap.size := by omega
  have lt4 : w3.heap.size < w4.heap.size := by omega
  clear hw4
  have hgr := regrown_cells w4 (B := w3.heap.size + 1) (by omega)
  refine wp_region_quiet_below (by kernel_rfl) (by kernel_rfl) ?_
  repeat (quiet_step ((go_at_call 24; exact quiet_b (cone_any (b := mkB 7 4 1050) h30_1 _))))
  refine wpQuiet_nil ?_
  intro _ hw'
  obtain ⟨⟨dq, osq⟩, hw''⟩ := hw'
  subst hw''
  have hb5 := below_regrown w4 dq osq
  clear hgr
  generalize grow (redrawn w4 dq) osq = w5 at hb5 ⊢
  have hz5 := hb5.size
  (try simp only [World.size_alloc, World.size_setCell, World.size_drew, size_drewN', size_grow, size_redrawn] at hz5)
  obtain ⟨hc5, hf5⟩ := bcellB (B := w3.heap.size + 1) hb5 (by first | omega | (simp only [World.size_alloc, World.size_setCell, World.size_drew, size_drewN', size_grow, size_redrawn]; omega))
  go_wp2_with fail
  refine (cstmt_lit (l := lB) h30_2 _ 3 _ (hsl.up hb5) (by decide)).mono ?_
  rintro e w6 ⟨⟨A6, c6, rfl, hs6⟩, hb6⟩
  have hz6 := hb6.size
  obtain ⟨hc6, hf6⟩ := bcellB (B := w3.heap.size + 1) hb6 (by omega)
  have hb46 := below_up hb5 hz5 hb6
  have la6 : w.heap.size < w6.heap.size := by omega
  have lb6 : w3.heap.size < w6.heap.size := by omega
  go_wp2_with fail
  refine name_calls (fun w7 hw7 => ?_)
  have hb7 : Below w6.heap.size w6 w7 := by rw [hw7]; exact (Below.refl _ _).alloc (Nat.le_refl _) _
  have hse : SlEnt w7 (some ⟨w6.heap.size, 0, none⟩) [eL1, eL2] := by rw [hw7]; exact eSl w6
  have hz7 : w7.heap.size = w6.heap.size + 1 := by rw [hw7]; simp
  obtain ⟨hc7, hf7⟩ := bcellB (B := w3.heap.size + 1) hb7 (by omega)
  clear hw7
  have hb47 := below_up hb46 (by omega) hb7
  refine (cagrees_lit (l := lB) (es := [eL1, eL2]) h30_3 _ 3 A6 c6 _ 2 _ (hsl.up hb47) (by decide) (hs6.up hb7) (by decide) hse (by decide)).mono ?_
  rintro e w8 ⟨rfl, hb8⟩; have hz8 := hb8.size; (try simp only [World.size_alloc, World.size_setCell, World.size_drew, size_drewN', size_grow, size_redrawn] at hz8); obtain ⟨hc8, hf8⟩ := bcellB (B := w3.heap.size + 1) hb8 (by first | omega | (simp only [World.size_alloc, World.size_setCell, World.size_drew, size_drewN', size_grow, size_redrawn]; omega))
  have la8 : w.heap.size < w8.heap.size := by omega
  have lb8 : w3.heap.size < w8.heap.size := by omega
  have hb48 := below_up hb47 (by omega) hb8
  have hb68 := below_up hb7 (by omega) hb8
  go_wp2_with fail
  have hse1 : SlEnt w7 (some ⟨w6.heap.size, 0, none⟩) [eL1] := hse.take 1
  have hgr := regrown_cells w8 (B := w3.heap.size + 1) (by omega)
  refine wp_region_quiet_below (by kernel_rfl) (by kernel_rfl) ?_
  repeat (quiet_step ((go_at_call 29; exact quiet_b (cagrees_lit (l := lB) (es := [eL1]) h30_4 _ 3 A6 c6 _ 2 _ (hsl.up (below_regrown_up _ _ hb48 (by omega))) (by decide) (hs6.up (below_regrown_up _ _ hb68 (by omega))) (by decide) (hse1.up (below_regrown_up _ _ hb8 (by omega))) (by decide)))))
  refine wpQuiet_nil ?_
  intro _ hw'
  obtain ⟨⟨dq, osq⟩, hw''⟩ := hw'
  subst hw''
  have hb9 := below_regrown w8 dq osq
  clear hgr
  generalize grow (redrawn w8 dq) osq = w9 at hb9 ⊢
  have hz9 := hb9.size
  (try simp only [World.size_alloc, World.size_setCell, World.size_drew, size_drewN', size_grow, size_redrawn] at hz9)
  obtain ⟨hc9, hf9⟩ := bcellB (B := w3.heap.size + 1) hb9 (by first | omega | (simp only [World.size_alloc, World.size_setCell, World.size_drew, size_drewN', size_grow, size_redrawn]; omega))
  have la9 : w.heap.size < w9.heap.size := by omega
  have lb9 : w3.heap.size < w9.heap.size := by omega
  have hb49 := below_up hb48 (by omega) hb9
  have hb79 := below_up hb8 (by omega) hb9
  have hb69 := below_up hb68 (by omega) hb9
  go_wp2_with fail
  refine name_calls (fun w10 hw10 => ?_)
  have hb10 : Below w9.heap.size w9 w10 := by rw [hw10]; exact (Below.refl _ _).alloc (Nat.le_refl _) _
  have hz10 : w10.heap.size = w9.heap.size + 1 := by rw [hw10]; simp
  have hst10 : SlInt w10 (some ⟨w9.heap.size, 0, none⟩) [148] := by rw [hw10]; exact sl_of_box (cs := #[.int .i64 148]) (fun _ => rfl) (fun o => World.cell?_alloc_new w9 _ 3 o) (by simp) rfl
  obtain ⟨hc10, hf10⟩ := bcellB (B := w3.heap.size + 1) hb10 (by omega)
  clear hw10
  have hb410 := below_up hb49 (by omega) hb10
  have hb710 := below_up hb79 (by omega) hb10
  refine (cagrees_lit (l := lB) (es := [eL1, eL2]) (st := [148]) h30_5 _ 3 _ 1 _ 2 _ (hsl.up hb410) (by decide) hst10 (by decide) (hse.up hb710) (by decide)).mono ?_
  rintro e w11 ⟨rfl, hb11⟩; have hz11 := hb11.size; (try simp only [World.size_alloc, World.size_setCell, World.size_drew, size_drewN', size_grow, size_redrawn] at hz11); obtain ⟨hc11, hf11⟩ := bcellB (B := w3.heap.size + 1) hb11 (by first | omega | (simp only [World.size_alloc, World.size_setCell, World.size_drew, size_drewN', size_grow, size_redrawn]; omega))
  have la11 : w.heap.size < w11.heap.size := by omega
  have lb11 : w3.heap.size < w11.heap.size := by omega
  have hb411 := below_up hb410 (by omega) hb11
  have hb711 := below_up hb710 (by omega) hb11
  have hb611 := below_up (below_up hb69 (by omega) hb10) (by omega) hb11
  go_wp2_with fail
  refine (cone_any (b := mkB 7 4 1050) h30_6 _).mono ?_
  rintro e w12 ⟨rfl, hb12⟩; have hz12 := hb12.size; (try simp only [World.size_alloc, World.size_setCell, World.size_drew, size_drewN', size_grow, size_redrawn] at hz12); obtain ⟨hc12, hf12⟩ := bcellB (B := w3.heap.size + 1) hb12 (by first | omega | (simp only [World.size_alloc, World.size_setCell, World.size_drew, size_drewN', size_grow, size_redrawn]; omega))
  have la12 : w.heap.size < w12.heap.size := by omega
  have lb12 : w3.heap.size < w12.heap.size := by omega
  have hb412 := below_up hb411 (by omega) hb12
  have hb612 := below_up hb611 (by omega) hb12
  have hown12 : OwnL w12 w3.heap.size 25 9 Bill.cs (.slice (some ⟨w3.heap.size, 0, none⟩) lB.length 3) lB := hown4.below hb412
  have z0 : w12.cell? ⟨w.heap.size, 0, none⟩ = some (.int .i64 3) := by go_simp
  have z1 : w12.cell? ⟨w.heap.size, 1, none⟩ = some (.int .i64 20) := by go_simp
  have hsl12 : SlBill w12 (some ⟨w3.heap.size, 0, none⟩) lB := hsl.up hb412
  go_wp2_with fail
  go_region_law (first
    | (go_loud (refine step_full (by rfl) (.tmp 81) (.tmp 85) (by rfl) elemBill bill_len bill_one w3.heap.size 0 3 (w12.heap.size + 1) (by rfl) (L := lB) ((hsl12.below (by exact (Below.refl _ _).drew.alloc (by simp) _)).more (by simp)) _ 1 (mkB 7 4 1050) (by rfl) (by exact news_new _ _ _ _ rfl) (by decide) (by decide) (by decide) ?_); intro v13 w13 hown13 hg13; have hb13 : Below w12.heap.size w12 w13 := below_up (B := w12.heap.size) ((Below.refl _ _).drew.alloc (by simp) _) (by simp) ⟨hg13.os, hg13.tape, hg13.output, hg13.size, fun i hi => hg13.block i hi (by simp)⟩; obtain ⟨A13, c13, rfl, _, _, hsl13⟩ := hown13.sl bill_len; have u0 : w13.cell? ⟨w.heap.size, 0, none⟩ = some (.int .i64 3) := (hb13.cell (p := ⟨w.heap.size, 0, none⟩) la12).trans z0; have u1 : w13.cell? ⟨w.heap.size, 1, none⟩ = some (.int .i64 20) := (hb13.cell (p := ⟨w.heap.size, 1, none⟩) la12).trans z1)
    | (go_simp; go_at_call 26; go_loud (refine (cstmt_lit (l := lB ++ [mkB 7 4 1050]) h30_7 A13 c13 _ hsl13 (by decide)).mono ?_); rintro e w14 ⟨⟨A14, c14, rfl, hs14⟩, hb14⟩; obtain ⟨hc14, hf14⟩ := bcellB (B := w3.heap.size + 1) hb14 (by have := hb13.size; omega)))
  all_goals
    have hz13 := hb13.size
    have hz14 := hb14.size
    have la14 : w.heap.size < w14.heap.size := by omega
    have lb14 : w3.heap.size < w14.heap.size := by omega
    have hb1214 := below_up hb13 hz13 hb14
    have hb414 := below_up hb412 (by omega) hb1214
    have hb614 := below_up hb612 (by omega) hb1214
    go_wp2_with fail
    refine name_calls (fun w15 hw15 => ?_)
    have hb15 : Below w14.heap.size w14 w15 := by rw [hw15]; exact (Below.refl _ _).alloc (Nat.le_refl _) _
    have hz15 : w15.heap.size = w14.heap.size + 1 := by rw [hw15]; simp
    have hze : SlEnt w15 (some ⟨w14.heap.size, 0, none⟩) [zeroE] := by rw [hw15]; exact sl_of_box (cs := #[.int .i64 0, .int .i64 0, .int .i64 0, .int .i64 0, .int .i64 0]) (fun _ => rfl) (fun o => World.cell?_alloc_new w14 _ 63 o) (by simp) rfl
    clear hw15
    have hb415 := below_up hb414 (by omega) hb15
    have hb615 := below_up hb614 (by omega) hb15
    refine (cagrees_lit (l := lB) (es := [zeroE]) h30_8 _ 3 A6 c6 _ 1 _ (hsl.up hb415) (by decide) (hs6.up hb615) (by decide) hze (by decide)).mono ?_
    rintro e w16 ⟨rfl, hb16⟩
    have hz16 := hb16.size
    have hb416 := below_up hb415 (by omega) hb16
    have hb616 := below_up hb615 (by omega) hb16
    go_wp2_with fail
    refine name_calls (fun w17 hw17 => ?_)
    have hb17 : Below w16.heap.size w16 w17 := by rw [hw17]; exact (Below.refl _ _).alloc (Nat.le_refl _) _
    have hwt : SlInt w17 (some ⟨w16.heap.size, 0, none⟩) [158, 152] := by rw [hw17]; exact sl_of_box (cs := #[.int .i64 158, .int .i64 152]) (fun _ => rfl) (fun o => World.cell?_alloc_new w16 _ 3 o) (by simp) rfl
    clear hw17
    have hb417 := below_up hb416 (by omega) hb17
    refine (same30_any [158, 152] [158, 152] A6 _ c6 2 _ (hs6.up (below_up hb616 (by omega) hb17)) hwt (by decide) (by decide)).mono ?_
    rintro e w18 ⟨rfl, hb18⟩
    rw [decide_eq_true rfl]
    go_wp2_with fail
    go_ret
    exact ⟨ret_bool (by simp), below_up hB4 (by omega) (below_up hb417 (by have := hb417.size; omega) hb18)⟩
end Go.Proofs.Ythnncojbckifnaa
