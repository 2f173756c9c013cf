/-
  The law 'ReturnsCents': the walk.
-/
import Derived.Test.YtmlhoojcdidgkaaGreatRet11
import Derived.Test.YtmlhoojcdidgkaaGreatReCentsP
namespace Go.Proofs.YtmlhoojcdidgkaaGreat
set_option linter.unusedSimpArgs false
set_option linter.unusedVariables false
open Go.RowKit Go.Maps
open Go.Sort (grow size_grow)


set_option maxHeartbeats 4000000
set_option maxRecDepth 100000
theorem law_cents (V : Env) (bills : List Bill) (l : List Deed) (u v : Int) (fw : Bool) (A At Al : Option Addr) (c ct cl : Nat) (w : World) (hs : SlBill w A bills) (hts : SlTax w At V.ts) (hsl : SlDeed w Al l) (hst : ∀ x ∈ l, -9223372036854775808 ≤ x.stay ∧ x.stay ≤ 9223372036854775807) (u0 : 0 ≤ u) (u1 : u ≤ 255) (v0 : 0 ≤ v) (v1 : v ≤ 255) :
    Calls Tryz.prog 6 #[.slice A bills.length c, .slice At V.ts.length ct, .agg #[.int .i64 V.p, .int .i64 V.d], V.k.v, .slice Al l.length cl, .int .u8 u, .int .u8 v, .bool fw] w fun e w' => e = .returned (.bool true) ∧ Below w.heap.size w w' := by
  have HST := Lib.hid hst
  clear hst
  cases hu : usableB V bills l.length
  · go_enter Tryz.func6, Tryz.ntmps6
    go_wp2_with fail
    refine name_calls (fun w0 hw0 => ?_)
    have b0 : Below w.heap.size w w0 := by rw [hw0]; exact (by repeat' (first | (with_reducible exact Below.refl _ _) | (with_reducible assumption) | (with_reducible refine below_drewN ?_ _) | (with_reducible refine Below.drew ?_) | (with_reducible refine below_regrown_up _ _ ?_ ?_) | (with_reducible refine Below.alloc ?_ ?_ _) | (with_reducible refine Below.setCell ?_ ?_ _) | (with_reducible refine below_up ?_ ?_ (by assumption)) | (with_reducible exact Nat.le_refl _) | omega | (simp; done) | (simp; omega)))
    have l0 : w.heap.size + 1 < w0.heap.size := by rw [hw0]; simp
    have HX : Hid (∀ W, Below w0.heap.size w0 W → ((W.cell? ⟨w.heap.size, 0, none⟩ = some (.int .i64 V.p) ∧ W.cell? ⟨w.heap.size, 1, none⟩ = some (.int .i64 V.d)) ∧ (W.cell? ⟨w.heap.size + 1, 0, none⟩ = some (.int .i64 V.k.fx) ∧ W.cell? ⟨w.heap.size + 1, 1, none⟩ = some (.int .i64 V.k.n) ∧ W.cell? ⟨w.heap.size + 1, 2, none⟩ = some (.int .i64 V.k.d) ∧ W.cell? ⟨w.heap.size + 1, 3, none⟩ = some (.int .i64 V.k.most)) ∧ w.heap.size < W.heap.size ∧ w.heap.size + 1 < W.heap.size)) := Lib.hid (fun W hb => by
      have e : ∀ b o, b < w0.heap.size → W.cell? ⟨b, o, none⟩ = w0.cell? ⟨b, o, none⟩ := fun b o h => hb.cell (p := ⟨b, o, none⟩) h
      have hz := hb.size
      refine ⟨⟨?_, ?_⟩, ⟨?_, ?_, ?_, ?_⟩, by omega, by omega⟩
      all_goals
        rw [e _ _ (by omega), hw0]
        go_simp)
    clear hw0
    refine (head33_any _).mono ?_
    rintro e w1 ⟨rfl, b1⟩
    have B1 : Below w.heap.size w w1 := below_up b0 b0.size b1
    obtain ⟨⟨y0, y1⟩, ⟨x0, x1, x2, x3⟩, ly, lx⟩ := HX.out w1 b1
    go_wp2_with fail
    refine (usable33_any V bills l.length A At Al c ct cl w1 (hs.up B1) (hts.up B1)).mono ?_
    rintro e w2 ⟨rfl, b2⟩
    rw [hu]
    have B2 := below_up B1 B1.size b2
    have e2 := below_up b1 b1.size b2
    clear x0 x1 x2 x3 y0 y1 ly lx
    go_wp2_with fail
    go_ret
    exact ⟨ret_bool (by simp), B2⟩
  · obtain ⟨f1, f2, f3, f4, f5, f6, f7⟩ := usableB_iff.1 hu
    have hok := usableB_run hu
    have hr : runR V bills l = ((runAll V bills l).1.es, (runAll V bills l).2, 0) := by unfold runR; rw [if_neg (by omega), hok]; rfl
    have hrl := run_len (V := V) (bills := bills) l
    obtain ⟨hV, hbo, _, _⟩ := runOk_iff.1 hok
    have hlr := left_run hV hbo l
    have hag := agree_run hok (l := l) (by omega)
    have hled := run_led hok (l := l) (by omega)
    have hes := (run_ok hV hbo l).1.len
    have hbk : ∀ b ∈ leftF bills l (runAll V bills l).2, b.ok = true := (billsOk_iff.1 (leftF_ok hbo _ _)).1
    have hpost : farAll V.ts (leftF bills l (runAll V bills l).2) V.p V.d = false → ∀ (X : Entry) (acc : Int), Cent X acc → ((∃ pl, 1 ≤ pl ∧ pl ≤ 99 ∧ acc = 400 + pl) ∨ (∃ ch, 0 ≤ ch ∧ ch ≤ 29 ∧ acc = 700 + ch) ∨ (∃ b ∈ leftF bills l (runAll V bills l).2, acc = 300 + b.place ∧ X.ref = b.stay)) → ∃ m, postR (runAll V bills l).1.es X = (m, 0) ∧ m.length ≤ 5000 ∧ agreeR m (leftF bills l (runAll V bills l).2) V.ts V.p V.d = (false, 0) := fun hf X acc hX hc => ⟨_, (cents_run hok (by omega) hf hX hc).1, by rw [List.length_append]; simp only [List.length_singleton]; omega, (cents_run hok (by omega) hf hX hc).2⟩
    obtain ⟨left, hleft⟩ : ∃ left, left = leftF bills l (runAll V bills l).2 := ⟨_, rfl⟩
    have hlen := leftF_len bills l (runAll V bills l).2
    rw [← hleft] at hlr hag hlen hpost hbk
    clear hV hbo hok hled hleft f4 f5 f6 f7
    generalize (runAll V bills l).1.es = es at *
    generalize (runAll V bills l).2 = errs at *
    have HR := Lib.hid hr
    have HEL := Lib.hid hrl
    have HLE := Lib.hid hlr
    have HAG := Lib.hid hag
    have HPOST0 := Lib.hid hpost
    have HBK := Lib.hid hbk
    clear hr hrl hlr hag hpost hbk
    cases hf : farAll V.ts left V.p V.d
    rotate_left
    · go_enter Tryz.func6, Tryz.ntmps6
      go_wp2_with fail
      refine name_calls (fun w0 hw0 => ?_)
      have b0 : Below w.heap.size w w0 := by rw [hw0]; exact (by repeat' (first | (with_reducible exact Below.refl _ _) | (with_reducible assumption) | (with_reducible refine below_drewN ?_ _) | (with_reducible refine Below.drew ?_) | (with_reducible refine below_regrown_up _ _ ?_ ?_) | (with_reducible refine Below.alloc ?_ ?_ _) | (with_reducible refine Below.setCell ?_ ?_ _) | (with_reducible refine below_up ?_ ?_ (by assumption)) | (with_reducible exact Nat.le_refl _) | omega | (simp; done) | (simp; omega)))
      have l0 : w.heap.size + 1 < w0.heap.size := by rw [hw0]; simp
      have HX : Hid (∀ W, Below w0.heap.size w0 W → ((W.cell? ⟨w.heap.size, 0, none⟩ = some (.int .i64 V.p) ∧ W.cell? ⟨w.heap.size, 1, none⟩ = some (.int .i64 V.d)) ∧ (W.cell? ⟨w.heap.size + 1, 0, none⟩ = some (.int .i64 V.k.fx) ∧ W.cell? ⟨w.heap.size + 1, 1, none⟩ = some (.int .i64 V.k.n) ∧ W.cell? ⟨w.heap.size + 1, 2, none⟩ = some (.int .i64 V.k.d) ∧ W.cell? ⟨w.heap.size + 1, 3, none⟩ = some (.int .i64 V.k.most)) ∧ w.heap.size < W.heap.size ∧ w.heap.size + 1 < W.heap.size)) := Lib.hid (fun W hb => by
        have e : ∀ b o, b < w0.heap.size → W.cell? ⟨b, o, none⟩ = w0.cell? ⟨b, o, none⟩ := fun b o h => hb.cell (p := ⟨b, o, none⟩) h
        have hz := hb.size
        refine ⟨⟨?_, ?_⟩, ⟨?_, ?_, ?_, ?_⟩, by omega, by omega⟩
        all_goals
          rw [e _ _ (by omega), hw0]
          go_simp)
      clear hw0
      refine (head33_any _).mono ?_
      rintro e w1 ⟨rfl, b1⟩
      have B1 : Below w.heap.size w w1 := below_up b0 b0.size b1
      obtain ⟨⟨y0, y1⟩, ⟨x0, x1, x2, x3⟩, ly, lx⟩ := HX.out w1 b1
      go_wp2_with fail
      refine (usable33_any V bills l.length A At Al c ct cl w1 (hs.up B1) (hts.up B1)).mono ?_
      rintro e w2 ⟨rfl, b2⟩
      rw [hu]
      have B2 := below_up B1 B1.size b2
      have e2 := below_up b1 b1.size b2
      clear x0 x1 x2 x3 y0 y1 ly lx
      obtain ⟨⟨y0, y1⟩, ⟨x0, x1, x2, x3⟩, ly, lx⟩ := HX.out w2 e2
      go_wp2_with fail
      refine (run33_any (V := V) HR.out A At Al c ct cl w2 (hs.up B2) (hts.up B2) (hsl.up B2) (by omega) (by omega) (by omega) HEL.out HST.out).mono ?_
      rintro e w3 ⟨⟨A1, c1, A2, c2, rfl, s1, s2, hcap⟩, b3⟩
      rw [HLE.out] at s2 hcap ⊢
      have HCAP := Lib.hid hcap
      clear hcap
      have B3 := below_up B2 B2.size b3
      have e3 := below_up e2 e2.size b3
      clear x0 x1 x2 x3 y0 y1 ly lx
      obtain ⟨⟨y0, y1⟩, ⟨x0, x1, x2, x3⟩, ly, lx⟩ := HX.out w3 e3
      go_wp2_with fail
      refine (agree_any es left V.ts V.p V.d A1 A2 At c1 c2 ct w3 s1 s2 (hts.up B3) (by omega) (by unfold maxLen; omega) (by omega)).mono ?_
      rintro e w4 ⟨rfl, b4⟩
      rw [HAG.out, hf, if_pos rfl]
      clear x0 x1 x2 x3 y0 y1 ly lx
      have B4 := below_up B3 B3.size b4
      go_wp2_with fail
      go_ret
      exact ⟨ret_bool (by simp), B4⟩
    · have HPOST := Lib.hid (HPOST0.out hf)
      have hne5 : ((es.length : Int) == 5000) = false := by rw [beq_eq_false_iff_ne]; omega
      have hp1 : 0 ≤ u % 99 := by omega
      have hp2 : u % 99 ≤ 98 := by omega
      have hc1 : 0 ≤ u % 30 := by omega
      have hc2 : u % 30 ≤ 29 := by omega
      go_enter Tryz.func6, Tryz.ntmps6
      go_wp2_with fail
      refine name_calls (fun w0 hw0 => ?_)
      have b0 : Below w.heap.size w w0 := by rw [hw0]; exact (by repeat' (first | (with_reducible exact Below.refl _ _) | (with_reducible assumption) | (with_reducible refine below_drewN ?_ _) | (with_reducible refine Below.drew ?_) | (with_reducible refine below_regrown_up _ _ ?_ ?_) | (with_reducible refine Below.alloc ?_ ?_ _) | (with_reducible refine Below.setCell ?_ ?_ _) | (with_reducible refine below_up ?_ ?_ (by assumption)) | (with_reducible exact Nat.le_refl _) | omega | (simp; done) | (simp; omega)))
      have l0 : w.heap.size + 1 < w0.heap.size := by rw [hw0]; simp
      have HX : Hid (∀ W, Below w0.heap.size w0 W → ((W.cell? ⟨w.heap.size, 0, none⟩ = some (.int .i64 V.p) ∧ W.cell? ⟨w.heap.size, 1, none⟩ = some (.int .i64 V.d)) ∧ (W.cell? ⟨w.heap.size + 1, 0, none⟩ = some (.int .i64 V.k.fx) ∧ W.cell? ⟨w.heap.size + 1, 1, none⟩ = some (.int .i64 V.k.n) ∧ W.cell? ⟨w.heap.size + 1, 2, none⟩ = some (.int .i64 V.k.d) ∧ W.cell? ⟨w.heap.size + 1, 3, none⟩ = some (.int .i64 V.k.most)) ∧ w.heap.size < W.heap.size ∧ w.heap.size + 1 < W.heap.size)) := Lib.hid (fun W hb => by
        have e : ∀ b o, b < w0.heap.size → W.cell? ⟨b, o, none⟩ = w0.cell? ⟨b, o, none⟩ := fun b o h => hb.cell (p := ⟨b, o, none⟩) h
        have hz := hb.size
        refine ⟨⟨?_, ?_⟩, ⟨?_, ?_, ?_, ?_⟩, by omega, by omega⟩
        all_goals
          rw [e _ _ (by omega), hw0]
          go_simp)
      clear hw0
      refine (head33_any _).mono ?_
      rintro e w1 ⟨rfl, b1⟩
      have B1 : Below w.heap.size w w1 := below_up b0 b0.size b1
      obtain ⟨⟨y0, y1⟩, ⟨x0, x1, x2, x3⟩, ly, lx⟩ := HX.out w1 b1
      go_wp2_with fail
      refine (usable33_any V bills l.length A At Al c ct cl w1 (hs.up B1) (hts.up B1)).mono ?_
      rintro e w2 ⟨rfl, b2⟩
      rw [hu]
      have B2 := below_up B1 B1.size b2
      have e2 := below_up b1 b1.size b2
      clear x0 x1 x2 x3 y0 y1 ly lx
      obtain ⟨⟨y0, y1⟩, ⟨x0, x1, x2, x3⟩, ly, lx⟩ := HX.out w2 e2
      go_wp2_with fail
      refine (run33_any (V := V) HR.out A At Al c ct cl w2 (hs.up B2) (hts.up B2) (hsl.up B2) (by omega) (by omega) (by omega) HEL.out HST.out).mono ?_
      rintro e w3 ⟨⟨A1, c1, A2, c2, rfl, s1, s2, hcap⟩, b3⟩
      rw [HLE.out] at s2 hcap ⊢
      have HCAP := Lib.hid hcap
      clear hcap
      have B3 := below_up B2 B2.size b3
      have e3 := below_up e2 e2.size b3
      clear x0 x1 x2 x3 y0 y1 ly lx
      obtain ⟨⟨y0, y1⟩, ⟨x0, x1, x2, x3⟩, ly, lx⟩ := HX.out w3 e3
      go_wp2_with fail
      refine (agree_any es left V.ts V.p V.d A1 A2 At c1 c2 ct w3 s1 s2 (hts.up B3) (by omega) (by unfold maxLen; omega) (by omega)).mono ?_
      rintro e w4 ⟨rfl, b4⟩
      rw [HAG.out, hf, if_neg (by simp)]
      clear x0 x1 x2 x3 y0 y1 ly lx
      have B4 := below_up B3 B3.size b4
      have e4 := below_up e3 e3.size b4
      have l4 : w.heap.size < w4.heap.size := by have := B4.size; have := b0.size; have := e4.size; omega
      have hv3 : v % 3 = 0 ∨ v % 3 = 1 ∨ v % 3 = 2 := by omega
      rcases hv3 with h3 | h3 | h3
      · have g1 : ((v % 3) == 1) = false := by rw [h3]; rfl
        have g2 : ((v % 3) == 2) = false := by rw [h3]; rfl
        clear h3
        cases fw
        · obtain ⟨m6, hq1, hml, hq2⟩ := HPOST.out (⟨366, 900, (401 + u % 99), 1, 5⟩ : Entry) ((401 + u % 99)) ((cent_of (acc := 401 + u % 99) (ref := 5) (by omega) (by omega) (by omega) (by omega))).2 (.inl ⟨1 + u % 99, by omega, by omega, by omega⟩)
          have HP1 := Lib.hid hq1
          have HP2 := Lib.hid hq2
          clear hq1 hq2
          go_wp2_with fail
          refine name_calls (fun w5 hw5 => ?_)
          have b5 : Below w4.heap.size w4 w5 := by rw [hw5]; exact (by repeat' (first | (with_reducible exact Below.refl _ _) | (with_reducible assumption) | (with_reducible refine below_drewN ?_ _) | (with_reducible refine Below.drew ?_) | (with_reducible refine below_regrown_up _ _ ?_ ?_) | (with_reducible refine Below.alloc ?_ ?_ _) | (with_reducible refine Below.setCell ?_ ?_ _) | (with_reducible refine below_up ?_ ?_ (by assumption)) | (with_reducible exact Nat.le_refl _) | omega | (simp; done) | (simp; omega)))
          clear hw5
          have e5 := below_up e4 e4.size b5
          have B5 := below_up B4 B4.size b5
          refine (post_lit (x := (⟨366, 900, (401 + u % 99), 1, 5⟩ : Entry)) HP1.out A1 c1 w5 ((s1.up b4).up b5) (by omega)).mono ?_
          rintro e w6 ⟨⟨A6, c6, rfl, _, s6⟩, b6⟩
          have e6 := below_up e5 e5.size b6
          have B6 := below_up B5 B5.size b6
          have b36 := below_up (below_up b4 b4.size b5) (by have := b4.size; have := b5.size; omega) b6
          obtain ⟨⟨y0, y1⟩, ⟨x0, x1, x2, x3⟩, ly, lx⟩ := HX.out w6 e6
          go_wp2_with fail
          refine (agree_any m6 left V.ts V.p V.d A6 A2 At c6 c2 ct w6 s6 (s2.up b36) (hts.up B6) (by omega) (by unfold maxLen; omega) (by omega)).mono ?_
          rintro e w7 ⟨rfl, b7⟩
          rw [HP2.out]
          clear x0 x1 x2 x3 y0 y1 ly lx
          have B7 := below_up B6 B6.size b7
          go_wp2_with fail
          go_ret
          exact ⟨ret_bool (by simp), B7⟩
        · obtain ⟨m6, hq1, hml, hq2⟩ := HPOST.out (⟨366, (401 + u % 99), 900, 1, 5⟩ : Entry) ((401 + u % 99)) ((cent_of (acc := 401 + u % 99) (ref := 5) (by omega) (by omega) (by omega) (by omega))).1 (.inl ⟨1 + u % 99, by omega, by omega, by omega⟩)
          have HP1 := Lib.hid hq1
          have HP2 := Lib.hid hq2
          clear hq1 hq2
          go_wp2_with fail
          refine name_calls (fun w5 hw5 => ?_)
          have b5 : Below w4.heap.size w4 w5 := by rw [hw5]; exact (by repeat' (first | (with_reducible exact Below.refl _ _) | (with_reducible assumption) | (with_reducible refine below_drewN ?_ _) | (with_reducible refine Below.drew ?_) | (with_reducible refine below_regrown_up _ _ ?_ ?_) | (with_reducible refine Below.alloc ?_ ?_ _) | (with_reducible refine Below.setCell ?_ ?_ _) | (with_reducible refine below_up ?_ ?_ (by assumption)) | (with_reducible exact Nat.le_refl _) | omega | (simp; done) | (simp; omega)))
          clear hw5
          have e5 := below_up e4 e4.size b5
          have B5 := below_up B4 B4.size b5
          refine (post_lit (x := (⟨366, (401 + u % 99), 900, 1, 5⟩ : Entry)) HP1.out A1 c1 w5 ((s1.up b4).up b5) (by omega)).mono ?_
          rintro e w6 ⟨⟨A6, c6, rfl, _, s6⟩, b6⟩
          have e6 := below_up e5 e5.size b6
          have B6 := below_up B5 B5.size b6
          have b36 := below_up (below_up b4 b4.size b5) (by have := b4.size; have := b5.size; omega) b6
          obtain ⟨⟨y0, y1⟩, ⟨x0, x1, x2, x3⟩, ly, lx⟩ := HX.out w6 e6
          go_wp2_with fail
          refine (agree_any m6 left V.ts V.p V.d A6 A2 At c6 c2 ct w6 s6 (s2.up b36) (hts.up B6) (by omega) (by unfold maxLen; omega) (by omega)).mono ?_
          rintro e w7 ⟨rfl, b7⟩
          rw [HP2.out]
          clear x0 x1 x2 x3 y0 y1 ly lx
          have B7 := below_up B6 B6.size b7
          go_wp2_with fail
          go_ret
          exact ⟨ret_bool (by simp), B7⟩
      · have g1 : ((v % 3) == 1) = true := by rw [h3]; rfl
        clear h3
        cases fw
        · obtain ⟨m6, hq1, hml, hq2⟩ := HPOST.out (⟨366, 900, (700 + u % 30), 1, 5⟩ : Entry) ((700 + u % 30)) ((cent_of (acc := 700 + u % 30) (ref := 5) (by omega) (by omega) (by omega) (by omega))).2 (.inr (.inl ⟨u % 30, by omega, by omega, rfl⟩))
          have HP1 := Lib.hid hq1
          have HP2 := Lib.hid hq2
          clear hq1 hq2
          go_wp2_with fail
          refine name_calls (fun w5 hw5 => ?_)
          have b5 : Below w4.heap.size w4 w5 := by rw [hw5]; exact (by repeat' (first | (with_reducible exact Below.refl _ _) | (with_reducible assumption) | (with_reducible refine below_drewN ?_ _) | (with_reducible refine Below.drew ?_) | (with_reducible refine below_regrown_up _ _ ?_ ?_) | (with_reducible refine Below.alloc ?_ ?_ _) | (with_reducible refine Below.setCell ?_ ?_ _) | (with_reducible refine below_up ?_ ?_ (by assumption)) | (with_reducible exact Nat.le_refl _) | omega | (simp; done) | (simp; omega)))
          clear hw5
          have e5 := below_up e4 e4.size b5
          have B5 := below_up B4 B4.size b5
          refine (post_lit (x := (⟨366, 900, (700 + u % 30), 1, 5⟩ : Entry)) HP1.out A1 c1 w5 ((s1.up b4).up b5) (by omega)).mono ?_
          rintro e w6 ⟨⟨A6, c6, rfl, _, s6⟩, b6⟩
          have e6 := below_up e5 e5.size b6
          have B6 := below_up B5 B5.size b6
          have b36 := below_up (below_up b4 b4.size b5) (by have := b4.size; have := b5.size; omega) b6
          obtain ⟨⟨y0, y1⟩, ⟨x0, x1, x2, x3⟩, ly, lx⟩ := HX.out w6 e6
          go_wp2_with fail
          refine (agree_any m6 left V.ts V.p V.d A6 A2 At c6 c2 ct w6 s6 (s2.up b36) (hts.up B6) (by omega) (by unfold maxLen; omega) (by omega)).mono ?_
          rintro e w7 ⟨rfl, b7⟩
          rw [HP2.out]
          clear x0 x1 x2 x3 y0 y1 ly lx
          have B7 := below_up B6 B6.size b7
          go_wp2_with fail
          go_ret
          exact ⟨ret_bool (by simp), B7⟩
        · obtain ⟨m6, hq1, hml, hq2⟩ := HPOST.out (⟨366, (700 + u % 30), 900, 1, 5⟩ : Entry) ((700 + u % 30)) ((cent_of (acc := 700 + u % 30) (ref := 5) (by omega) (by omega) (by omega) (by omega))).1 (.inr (.inl ⟨u % 30, by omega, by omega, rfl⟩))
          have HP1 := Lib.hid hq1
          have HP2 := Lib.hid hq2
          clear hq1 hq2
          go_wp2_with fail
          refine name_calls (fun w5 hw5 => ?_)
          have b5 : Below w4.heap.size w4 w5 := by rw [hw5]; exact (by repeat' (first | (with_reducible exact Below.refl _ _) | (with_reducible assumption) | (with_reducible refine below_drewN ?_ _) | (with_reducible refine Below.drew ?_) | (with_reducible refine below_regrown_up _ _ ?_ ?_) | (with_reducible refine Below.alloc ?_ ?_ _) | (with_reducible refine Below.setCell ?_ ?_ _) | (with_reducible refine below_up ?_ ?_ (by assumption)) | (with_reducible exact Nat.le_refl _) | omega | (simp; done) | (simp; omega)))
          clear hw5
          have e5 := below_up e4 e4.size b5
          have B5 := below_up B4 B4.size b5
          refine (post_lit (x := (⟨366, (700 + u % 30), 900, 1, 5⟩ : Entry)) HP1.out A1 c1 w5 ((s1.up b4).up b5) (by omega)).mono ?_
          rintro e w6 ⟨⟨A6, c6, rfl, _, s6⟩, b6⟩
          have e6 := below_up e5 e5.size b6
          have B6 := below_up B5 B5.size b6
          have b36 := below_up (below_up b4 b4.size b5) (by have := b4.size; have := b5.size; omega) b6
          obtain ⟨⟨y0, y1⟩, ⟨x0, x1, x2, x3⟩, ly, lx⟩ := HX.out w6 e6
          go_wp2_with fail
          refine (agree_any m6 left V.ts V.p V.d A6 A2 At c6 c2 ct w6 s6 (s2.up b36) (hts.up B6) (by omega) (by unfold maxLen; omega) (by omega)).mono ?_
          rintro e w7 ⟨rfl, b7⟩
          rw [HP2.out]
          clear x0 x1 x2 x3 y0 y1 ly lx
          have B7 := below_up B6 B6.size b7
          go_wp2_with fail
          go_ret
          exact ⟨ret_bool (by simp), B7⟩
      · have g1 : ((v % 3) == 1) = false := by rw [h3]; rfl
        have g2 : ((v % 3) == 2) = true := by rw [h3]; rfl
        clear h3
        by_cases hn : left.length = 0
        · have hn' : ¬ (0 : Int) < (left.length : Int) := by omega
          clear hn
          cases fw
          · obtain ⟨m6, hq1, hml, hq2⟩ := HPOST.out (⟨366, 900, (401 + u % 99), 1, 5⟩ : Entry) ((401 + u % 99)) ((cent_of (acc := 401 + u % 99) (ref := 5) (by omega) (by omega) (by omega) (by omega))).2 (.inl ⟨1 + u % 99, by omega, by omega, by omega⟩)
            have HP1 := Lib.hid hq1
            have HP2 := Lib.hid hq2
            clear hq1 hq2
            go_wp2_with fail
            refine name_calls (fun w5 hw5 => ?_)
            have b5 : Below w4.heap.size w4 w5 := by rw [hw5]; exact (by repeat' (first | (with_reducible exact Below.refl _ _) | (with_reducible assumption) | (with_reducible refine below_drewN ?_ _) | (with_reducible refine Below.drew ?_) | (with_reducible refine below_regrown_up _ _ ?_ ?_) | (with_reducible refine Below.alloc ?_ ?_ _) | (with_reducible refine Below.setCell ?_ ?_ _) | (with_reducible refine below_up ?_ ?_ (by assumption)) | (with_reducible exact Nat.le_refl _) | omega | (simp; done) | (simp; omega)))
            clear hw5
            have e5 := below_up e4 e4.size b5
            have B5 := below_up B4 B4.size b5
            refine (post_lit (x := (⟨366, 900, (401 + u % 99), 1, 5⟩ : Entry)) HP1.out A1 c1 w5 ((s1.up b4).up b5) (by omega)).mono ?_
            rintro e w6 ⟨⟨A6, c6, rfl, _, s6⟩, b6⟩
            have e6 := below_up e5 e5.size b6
            have B6 := below_up B5 B5.size b6
            have b36 := below_up (below_up b4 b4.size b5) (by have := b4.size; have := b5.size; omega) b6
            obtain ⟨⟨y0, y1⟩, ⟨x0, x1, x2, x3⟩, ly, lx⟩ := HX.out w6 e6
            go_wp2_with fail
            refine (agree_any m6 left V.ts V.p V.d A6 A2 At c6 c2 ct w6 s6 (s2.up b36) (hts.up B6) (by omega) (by unfold maxLen; omega) (by omega)).mono ?_
            rintro e w7 ⟨rfl, b7⟩
            rw [HP2.out]
            clear x0 x1 x2 x3 y0 y1 ly lx
            have B7 := below_up B6 B6.size b7
            go_wp2_with fail
            go_ret
            exact ⟨ret_bool (by simp), B7⟩
          · obtain ⟨m6, hq1, hml, hq2⟩ := HPOST.out (⟨366, (401 + u % 99), 900, 1, 5⟩ : Entry) ((401 + u % 99)) ((cent_of (acc := 401 + u % 99) (ref := 5) (by omega) (by omega) (by omega) (by omega))).1 (.inl ⟨1 + u % 99, by omega, by omega, by omega⟩)
            have HP1 := Lib.hid hq1
            have HP2 := Lib.hid hq2
            clear hq1 hq2
            go_wp2_with fail
            refine name_calls (fun w5 hw5 => ?_)
            have b5 : Below w4.heap.size w4 w5 := by rw [hw5]; exact (by repeat' (first | (with_reducible exact Below.refl _ _) | (with_reducible assumption) | (with_reducible refine below_drewN ?_ _) | (with_reducible refine Below.drew ?_) | (with_reducible refine below_regrown_up _ _ ?_ ?_) | (with_reducible refine Below.alloc ?_ ?_ _) | (with_reducible refine Below.setCell ?_ ?_ _) | (with_reducible refine below_up ?_ ?_ (by assumption)) | (with_reducible exact Nat.le_refl _) | omega | (simp; done) | (simp; omega)))
            clear hw5
            have e5 := below_up e4 e4.size b5
            have B5 := below_up B4 B4.size b5
            refine (post_lit (x := (⟨366, (401 + u % 99), 900, 1, 5⟩ : Entry)) HP1.out A1 c1 w5 ((s1.up b4).up b5) (by omega)).mono ?_
            rintro e w6 ⟨⟨A6, c6, rfl, _, s6⟩, b6⟩
            have e6 := below_up e5 e5.size b6
            have B6 := below_up B5 B5.size b6
            have b36 := below_up (below_up b4 b4.size b5) (by have := b4.size; have := b5.size; omega) b6
            obtain ⟨⟨y0, y1⟩, ⟨x0, x1, x2, x3⟩, ly, lx⟩ := HX.out w6 e6
            go_wp2_with fail
            refine (agree_any m6 left V.ts V.p V.d A6 A2 At c6 c2 ct w6 s6 (s2.up b36) (hts.up B6) (by omega) (by unfold maxLen; omega) (by omega)).mono ?_
            rintro e w7 ⟨rfl, b7⟩
            rw [HP2.out]
            clear x0 x1 x2 x3 y0 y1 ly lx
            have B7 := below_up B6 B6.size b7
            go_wp2_with fail
            go_ret
            exact ⟨ret_bool (by simp), B7⟩
        · have hn' : (0 : Int) < (left.length : Int) := by omega
          have hn1 : ((left.length : Int) == 0) = false := by rw [beq_eq_false_iff_ne]; omega
          have hn2 : left.length ≠ 0 := hn
          have hk0 : 0 ≤ u % (left.length : Int) := Int.emod_nonneg _ (by omega)
          have hk1 : u % (left.length : Int) < (left.length : Int) := Int.emod_lt_of_pos _ (by omega)
          obtain ⟨k, hkk⟩ : ∃ k : Nat, u % (left.length : Int) = k := ⟨(u % (left.length : Int)).toNat, by omega⟩
          rw [hkk] at hk0 hk1
          have hk : k < left.length := by omega
          have s24 := s2.up b4
          obtain ⟨bb, off, rfl, hbl, hcell⟩ := s24.at_ hk
          have q0 := hcell 0 _ rfl
          have q1 := hcell 1 _ rfl
          have q2 := hcell 2 _ rfl
          have q3 := hcell 3 _ rfl
          have q4 := hcell 4 _ rfl
          have q5 := hcell 5 _ rfl
          have q6 := hcell 6 _ rfl
          have q7 := hcell 7 _ rfl
          have q8 := hcell 8 _ rfl
          rw [Nat.add_zero] at q0
          clear hcell
          have hmem := List.getElem_mem hk
          have hbo := Bill.ok_iff.1 (HBK.out _ hmem)
          have hsy := hbo.2.2.2.1
          have hpl := hbo.2.2.2.2.2.1
          have HMEM := Lib.hid hmem
          clear hbo hmem
          have hw1 : IntKind.i64.wrap (300 + left[k].place) = 300 + left[k].place := IntWalk.i64_in _ (by omega)
          have HX3 := Lib.hid (cent_of (acc := 300 + left[k].place) (ref := left[k].stay) (by omega) (by omega) (by omega) (by omega))
          generalize hpv : left[k].place = pv at *
          generalize hsv : left[k].stay = sv at *
          cases fw
          · go_wp2_with fail
            go_region
            all_goals
              obtain ⟨m6, hq1, hml, hq2⟩ := HPOST.out (⟨366, 900, 300 + pv, 1, sv⟩ : Entry) (300 + pv) (HX3.out).2 (.inr (.inr ⟨left[k], HMEM.out, by rw [hpv], hsv.symm⟩))
              have HP1 := Lib.hid hq1
              have HP2 := Lib.hid hq2
              clear hq1 hq2
              go_wp2_with fail
              refine name_calls (fun w5 hw5 => ?_)
              have b5 : Below w4.heap.size w4 w5 := by rw [hw5]; exact (by repeat' (first | (with_reducible exact Below.refl _ _) | (with_reducible assumption) | (with_reducible refine below_drewN ?_ _) | (with_reducible refine Below.drew ?_) | (with_reducible refine below_regrown_up _ _ ?_ ?_) | (with_reducible refine Below.alloc ?_ ?_ _) | (with_reducible refine Below.setCell ?_ ?_ _) | (with_reducible refine below_up ?_ ?_ (by assumption)) | (with_reducible exact Nat.le_refl _) | omega | (simp; done) | (simp; omega)))
              clear hw5
              have e5 := below_up e4 e4.size b5
              have B5 := below_up B4 B4.size b5
              refine (post_lit (x := (⟨366, 900, 300 + pv, 1, sv⟩ : Entry)) HP1.out A1 c1 w5 ((s1.up b4).up b5) (by omega)).mono ?_
              rintro e w6 ⟨⟨A6, c6, rfl, _, s6⟩, b6⟩
              have e6 := below_up e5 e5.size b6
              have B6 := below_up B5 B5.size b6
              have b36 := below_up (below_up b4 b4.size b5) (by have := b4.size; have := b5.size; omega) b6
              obtain ⟨⟨y0, y1⟩, ⟨x0, x1, x2, x3⟩, ly, lx⟩ := HX.out w6 e6
              go_wp2_with fail
              refine (agree_any m6 left V.ts V.p V.d A6 (some ⟨bb, off, none⟩) At c6 c2 ct w6 s6 (s2.up b36) (hts.up B6) (by omega) (by unfold maxLen; omega) (by omega)).mono ?_
              rintro e w7 ⟨rfl, b7⟩
              rw [HP2.out]
              clear x0 x1 x2 x3 y0 y1 ly lx
              have B7 := below_up B6 B6.size b7
              go_wp2_with fail
              go_ret
              exact ⟨ret_bool (by simp), B7⟩
          · go_wp2_with fail
            go_region
            all_goals
              obtain ⟨m6, hq1, hml, hq2⟩ := HPOST.out (⟨366, 300 + pv, 900, 1, sv⟩ : Entry) (300 + pv) (HX3.out).1 (.inr (.inr ⟨left[k], HMEM.out, by rw [hpv], hsv.symm⟩))
              have HP1 := Lib.hid hq1
              have HP2 := Lib.hid hq2
              clear hq1 hq2
              go_wp2_with fail
              refine name_calls (fun w5 hw5 => ?_)
              have b5 : Below w4.heap.size w4 w5 := by rw [hw5]; exact (by repeat' (first | (with_reducible exact Below.refl _ _) | (with_reducible assumption) | (with_reducible refine below_drewN ?_ _) | (with_reducible refine Below.drew ?_) | (with_reducible refine below_regrown_up _ _ ?_ ?_) | (with_reducible refine Below.alloc ?_ ?_ _) | (with_reducible refine Below.setCell ?_ ?_ _) | (with_reducible refine below_up ?_ ?_ (by assumption)) | (with_reducible exact Nat.le_refl _) | omega | (simp; done) | (simp; omega)))
              clear hw5
              have e5 := below_up e4 e4.size b5
              have B5 := below_up B4 B4.size b5
              refine (post_lit (x := (⟨366, 300 + pv, 900, 1, sv⟩ : Entry)) HP1.out A1 c1 w5 ((s1.up b4).up b5) (by omega)).mono ?_
              rintro e w6 ⟨⟨A6, c6, rfl, _, s6⟩, b6⟩
              have e6 := below_up e5 e5.size b6
              have B6 := below_up B5 B5.size b6
              have b36 := below_up (below_up b4 b4.size b5) (by have := b4.size; have := b5.size; omega) b6
              obtain ⟨⟨y0, y1⟩, ⟨x0, x1, x2, x3⟩, ly, lx⟩ := HX.out w6 e6
              go_wp2_with fail
              refine (agree_any m6 left V.ts V.p V.d A6 (some ⟨bb, off, none⟩) At c6 c2 ct w6 s6 (s2.up b36) (hts.up B6) (by omega) (by unfold maxLen; omega) (by omega)).mono ?_
              rintro e w7 ⟨rfl, b7⟩
              rw [HP2.out]
              clear x0 x1 x2 x3 y0 y1 ly lx
              have B7 := below_up B6 B6.size b7
              go_wp2_with fail
              go_ret
              exact ⟨ret_bool (by simp), B7⟩
end Go.Proofs.YtmlhoojcdidgkaaGreat
