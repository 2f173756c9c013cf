/-
  The law 'ReturnsUndone': the walk.
-/
import Derived.Test.YtmlhoojcdidgkaaGreatRet11
import Derived.Test.YtmlhoojcdidgkaaGreatReUndoP
namespace Go.Proofs.YtmlhoojcdidgkaaGreat
set_option linter.unusedSimpArgs false
set_option linter.unusedVariables false
open Go.RowKit Go.Maps
open Go.Sort (grow size_grow)


set_option maxHeartbeats 4000000
set_option maxRecDepth 100000
theorem sl_at_same {w : World} {b off : Nat} {l : List Bill} (h : SlBill w (some ⟨b, off, none⟩) l) {k : Nat} (hk : k < l.length) : b < w.heap.size ∧ ∀ (j : Nat) (u : Value), (Bill.cs l[k])[j]? = some u → w.cell? ⟨b, off + k * 9 + j, none⟩ = some u := by
  obtain ⟨b', off', e, h1, h2⟩ := h.at_ hk
  injection e with e
  injection e with e1 e2
  subst e1 e2
  exact ⟨h1, h2⟩
theorem law_reundo (V : Env) (bills : List Bill) (l : List Deed) (u : Int) (A At Al : Option Addr) (c ct cl : Nat) (w : World) (hs : SlBill w A bills) (hts : SlTax w At V.ts) (hsl : SlDeed w Al l) (hst : ∀ x ∈ l, -9223372036854775808 ≤ x.stay ∧ x.stay ≤ 9223372036854775807) (u0 : 0 ≤ u) (u1 : u ≤ 255) :
    Calls Tryz.prog 7 #[.slice A bills.length c, .slice At V.ts.length ct, .agg #[.int .i64 V.p, .int .i64 V.d], V.k.v, .slice Al l.length cl, .int .u8 u] w fun e w' => e = .returned (.bool true) ∧ Below w.heap.size w w' := by
  have HST := Lib.hid hst
  clear hst
  cases hu : usableB V bills l.length
  · go_enter Tryz.func7, Tryz.ntmps7
    go_wp2_with fail
    refine name_calls (fun w0 hw0 => ?_)
    have b0 : Below w.heap.size w w0 := by rw [hw0]; exact (by repeat' (first | (with_reducible exact Below.refl _ _) | (with_reducible assumption) | (with_reducible refine below_drewN ?_ _) | (with_reducible refine Below.drew ?_) | (with_reducible refine below_regrown_up _ _ ?_ ?_) | (with_reducible refine Below.alloc ?_ ?_ _) | (with_reducible refine Below.setCell ?_ ?_ _) | (with_reducible refine below_up ?_ ?_ (by assumption)) | (with_reducible exact Nat.le_refl _) | omega | (simp; done) | (simp; omega)))
    have l0 : w.heap.size + 1 < w0.heap.size := by rw [hw0]; simp
    have HX : Hid (∀ W, Below w0.heap.size w0 W → ((W.cell? ⟨w.heap.size, 0, none⟩ = some (.int .i64 V.p) ∧ W.cell? ⟨w.heap.size, 1, none⟩ = some (.int .i64 V.d)) ∧ (W.cell? ⟨w.heap.size + 1, 0, none⟩ = some (.int .i64 V.k.fx) ∧ W.cell? ⟨w.heap.size + 1, 1, none⟩ = some (.int .i64 V.k.n) ∧ W.cell? ⟨w.heap.size + 1, 2, none⟩ = some (.int .i64 V.k.d) ∧ W.cell? ⟨w.heap.size + 1, 3, none⟩ = some (.int .i64 V.k.most)) ∧ w.heap.size < W.heap.size ∧ w.heap.size + 1 < W.heap.size)) := Lib.hid (fun W hb => by
      have e : ∀ b o, b < w0.heap.size → W.cell? ⟨b, o, none⟩ = w0.cell? ⟨b, o, none⟩ := fun b o h => hb.cell (p := ⟨b, o, none⟩) h
      have hz := hb.size
      refine ⟨⟨?_, ?_⟩, ⟨?_, ?_, ?_, ?_⟩, by omega, by omega⟩
      all_goals
        rw [e _ _ (by omega), hw0]
        go_simp)
    clear hw0
    refine (head33_any _).mono ?_
    rintro e w1 ⟨rfl, b1⟩
    have B1 : Below w.heap.size w w1 := below_up b0 b0.size b1
    obtain ⟨⟨y0, y1⟩, ⟨x0, x1, x2, x3⟩, ly, lx⟩ := HX.out w1 b1
    go_wp2_with fail
    refine (usable33_any V bills l.length A At Al c ct cl w1 (hs.up B1) (hts.up B1)).mono ?_
    rintro e w2 ⟨rfl, b2⟩
    rw [hu]
    have B2 := below_up B1 B1.size b2
    have e2 := below_up b1 b1.size b2
    clear x0 x1 x2 x3 y0 y1 ly lx
    go_wp2_with fail
    go_ret
    exact ⟨ret_bool (by simp), B2⟩
  · obtain ⟨f1, f2, f3, f4, f5, f6, f7⟩ := usableB_iff.1 hu
    have hok := usableB_run hu
    have hr : runR V bills l = ((runAll V bills l).1.es, (runAll V bills l).2, 0) := by unfold runR; rw [if_neg (by omega), hok]; rfl
    have hrl := run_len (V := V) (bills := bills) l
    obtain ⟨hV, hbo, _, _⟩ := runOk_iff.1 hok
    have hlr := left_run hV hbo l
    have hag := agree_run hok (l := l) (by omega)
    have hled := run_led hok (l := l) (by omega)
    have hes := (run_ok hV hbo l).1.len
    have hud : farAll V.ts (leftF bills l (runAll V bills l).2) V.p V.d = false → ∀ (k : Nat) (hk : k < (leftF bills l (runAll V bills l).2).length), ∃ r n, allT V.ts (leftF bills l (runAll V bills l).2)[k] = (r, n, 0) ∧
      ((undoR (runAll V bills l).1.es (leftF bills l (runAll V bills l).2)[k].stay 366 = ([], 4) ∧ (leftF bills l (runAll V bills l).2)[k].price = 0) ∨
       ∃ m, undoR (runAll V bills l).1.es (leftF bills l (runAll V bills l).2)[k].stay 366 = (m, 0) ∧ m.length ≤ 5000 ∧
        agreeR m (leftF bills l (runAll V bills l).2) V.ts V.p V.d = (decide ((leftF bills l (runAll V bills l).2)[k].price = 0) && decide (n = 0), 0) ∧
        agreeR m (drop1 (leftF bills l (runAll V bills l).2) k) V.ts V.p V.d = (true, 0)) := fun hf k hk => undone_run hok (by omega) hf hk
    obtain ⟨left, hleft⟩ : ∃ left, left = leftF bills l (runAll V bills l).2 := ⟨_, rfl⟩
    have hlen := leftF_len bills l (runAll V bills l).2
    rw [← hleft] at hlr hag hlen hud
    clear hV hbo hok hleft f4 f5 f6 f7
    generalize (runAll V bills l).1.es = es at *
    generalize (runAll V bills l).2 = errs at *
    have HR := Lib.hid hr
    have HEL := Lib.hid hrl
    have HLE := Lib.hid hlr
    have HAG := Lib.hid hag
    have HUD0 := Lib.hid hud
    have HLED := Lib.hid hled
    clear hr hrl hlr hag hud hled
    cases hf : farAll V.ts left V.p V.d
    rotate_left
    · go_enter Tryz.func7, Tryz.ntmps7
      go_wp2_with fail
      refine name_calls (fun w0 hw0 => ?_)
      have b0 : Below w.heap.size w w0 := by rw [hw0]; exact (by repeat' (first | (with_reducible exact Below.refl _ _) | (with_reducible assumption) | (with_reducible refine below_drewN ?_ _) | (with_reducible refine Below.drew ?_) | (with_reducible refine below_regrown_up _ _ ?_ ?_) | (with_reducible refine Below.alloc ?_ ?_ _) | (with_reducible refine Below.setCell ?_ ?_ _) | (with_reducible refine below_up ?_ ?_ (by assumption)) | (with_reducible exact Nat.le_refl _) | omega | (simp; done) | (simp; omega)))
      have l0 : w.heap.size + 1 < w0.heap.size := by rw [hw0]; simp
      have HX : Hid (∀ W, Below w0.heap.size w0 W → ((W.cell? ⟨w.heap.size, 0, none⟩ = some (.int .i64 V.p) ∧ W.cell? ⟨w.heap.size, 1, none⟩ = some (.int .i64 V.d)) ∧ (W.cell? ⟨w.heap.size + 1, 0, none⟩ = some (.int .i64 V.k.fx) ∧ W.cell? ⟨w.heap.size + 1, 1, none⟩ = some (.int .i64 V.k.n) ∧ W.cell? ⟨w.heap.size + 1, 2, none⟩ = some (.int .i64 V.k.d) ∧ W.cell? ⟨w.heap.size + 1, 3, none⟩ = some (.int .i64 V.k.most)) ∧ w.heap.size < W.heap.size ∧ w.heap.size + 1 < W.heap.size)) := Lib.hid (fun W hb => by
        have e : ∀ b o, b < w0.heap.size → W.cell? ⟨b, o, none⟩ = w0.cell? ⟨b, o, none⟩ := fun b o h => hb.cell (p := ⟨b, o, none⟩) h
        have hz := hb.size
        refine ⟨⟨?_, ?_⟩, ⟨?_, ?_, ?_, ?_⟩, by omega, by omega⟩
        all_goals
          rw [e _ _ (by omega), hw0]
          go_simp)
      clear hw0
      refine (head33_any _).mono ?_
      rintro e w1 ⟨rfl, b1⟩
      have B1 : Below w.heap.size w w1 := below_up b0 b0.size b1
      obtain ⟨⟨y0, y1⟩, ⟨x0, x1, x2, x3⟩, ly, lx⟩ := HX.out w1 b1
      go_wp2_with fail
      refine (usable33_any V bills l.length A At Al c ct cl w1 (hs.up B1) (hts.up B1)).mono ?_
      rintro e w2 ⟨rfl, b2⟩
      rw [hu]
      have B2 := below_up B1 B1.size b2
      have e2 := below_up b1 b1.size b2
      clear x0 x1 x2 x3 y0 y1 ly lx
      obtain ⟨⟨y0, y1⟩, ⟨x0, x1, x2, x3⟩, ly, lx⟩ := HX.out w2 e2
      go_wp2_with fail
      refine (run33_any (V := V) HR.out A At Al c ct cl w2 (hs.up B2) (hts.up B2) (hsl.up B2) (by omega) (by omega) (by omega) HEL.out HST.out).mono ?_
      rintro e w3 ⟨⟨A1, c1, A2, c2, rfl, s1, s2, hcap⟩, b3⟩
      rw [HLE.out] at s2 hcap ⊢
      have HCAP := Lib.hid hcap
      clear hcap
      have B3 := below_up B2 B2.size b3
      have e3 := below_up e2 e2.size b3
      clear x0 x1 x2 x3 y0 y1 ly lx
      obtain ⟨⟨y0, y1⟩, ⟨x0, x1, x2, x3⟩, ly, lx⟩ := HX.out w3 e3
      go_wp2_with fail
      refine (agree_any es left V.ts V.p V.d A1 A2 At c1 c2 ct w3 s1 s2 (hts.up B3) (by omega) (by unfold maxLen; omega) (by omega)).mono ?_
      rintro e w4 ⟨rfl, b4⟩
      rw [HAG.out, hf, if_pos rfl]
      clear x0 x1 x2 x3 y0 y1 ly lx
      have B4 := below_up B3 B3.size b4
      go_wp2_with fail
      go_ret
      exact ⟨ret_bool (by simp), B4⟩
    · have HUD := Lib.hid (HUD0.out hf)
      go_enter Tryz.func7, Tryz.ntmps7
      go_wp2_with fail
      refine name_calls (fun w0 hw0 => ?_)
      have b0 : Below w.heap.size w w0 := by rw [hw0]; exact (by repeat' (first | (with_reducible exact Below.refl _ _) | (with_reducible assumption) | (with_reducible refine below_drewN ?_ _) | (with_reducible refine Below.drew ?_) | (with_reducible refine below_regrown_up _ _ ?_ ?_) | (with_reducible refine Below.alloc ?_ ?_ _) | (with_reducible refine Below.setCell ?_ ?_ _) | (with_reducible refine below_up ?_ ?_ (by assumption)) | (with_reducible exact Nat.le_refl _) | omega | (simp; done) | (simp; omega)))
      have l0 : w.heap.size + 1 < w0.heap.size := by rw [hw0]; simp
      have HX : Hid (∀ W, Below w0.heap.size w0 W → ((W.cell? ⟨w.heap.size, 0, none⟩ = some (.int .i64 V.p) ∧ W.cell? ⟨w.heap.size, 1, none⟩ = some (.int .i64 V.d)) ∧ (W.cell? ⟨w.heap.size + 1, 0, none⟩ = some (.int .i64 V.k.fx) ∧ W.cell? ⟨w.heap.size + 1, 1, none⟩ = some (.int .i64 V.k.n) ∧ W.cell? ⟨w.heap.size + 1, 2, none⟩ = some (.int .i64 V.k.d) ∧ W.cell? ⟨w.heap.size + 1, 3, none⟩ = some (.int .i64 V.k.most)) ∧ w.heap.size < W.heap.size ∧ w.heap.size + 1 < W.heap.size)) := Lib.hid (fun W hb => by
        have e : ∀ b o, b < w0.heap.size → W.cell? ⟨b, o, none⟩ = w0.cell? ⟨b, o, none⟩ := fun b o h => hb.cell (p := ⟨b, o, none⟩) h
        have hz := hb.size
        refine ⟨⟨?_, ?_⟩, ⟨?_, ?_, ?_, ?_⟩, by omega, by omega⟩
        all_goals
          rw [e _ _ (by omega), hw0]
          go_simp)
      clear hw0
      refine (head33_any _).mono ?_
      rintro e w1 ⟨rfl, b1⟩
      have B1 : Below w.heap.size w w1 := below_up b0 b0.size b1
      obtain ⟨⟨y0, y1⟩, ⟨x0, x1, x2, x3⟩, ly, lx⟩ := HX.out w1 b1
      go_wp2_with fail
      refine (usable33_any V bills l.length A At Al c ct cl w1 (hs.up B1) (hts.up B1)).mono ?_
      rintro e w2 ⟨rfl, b2⟩
      rw [hu]
      have B2 := below_up B1 B1.size b2
      have e2 := below_up b1 b1.size b2
      clear x0 x1 x2 x3 y0 y1 ly lx
      obtain ⟨⟨y0, y1⟩, ⟨x0, x1, x2, x3⟩, ly, lx⟩ := HX.out w2 e2
      go_wp2_with fail
      refine (run33_any (V := V) HR.out A At Al c ct cl w2 (hs.up B2) (hts.up B2) (hsl.up B2) (by omega) (by omega) (by omega) HEL.out HST.out).mono ?_
      rintro e w3 ⟨⟨A1, c1, A2, c2, rfl, s1, s2, hcap⟩, b3⟩
      rw [HLE.out] at s2 hcap ⊢
      have HCAP := Lib.hid hcap
      clear hcap
      have B3 := below_up B2 B2.size b3
      have e3 := below_up e2 e2.size b3
      clear x0 x1 x2 x3 y0 y1 ly lx
      obtain ⟨⟨y0, y1⟩, ⟨x0, x1, x2, x3⟩, ly, lx⟩ := HX.out w3 e3
      go_wp2_with fail
      refine (agree_any es left V.ts V.p V.d A1 A2 At c1 c2 ct w3 s1 s2 (hts.up B3) (by omega) (by unfold maxLen; omega) (by omega)).mono ?_
      rintro e w4 ⟨rfl, b4⟩
      rw [HAG.out, hf, if_neg (by simp)]
      clear x0 x1 x2 x3 y0 y1 ly lx
      have B4 := below_up B3 B3.size b4
      have e4 := below_up e3 e3.size b4
      by_cases hn : left.length = 0
      · have hn1 : ((left.length : Int) == 0) = true := by rw [beq_iff_eq]; omega
        go_wp2_with fail
        go_ret
        exact ⟨ret_bool (by simp), B4⟩
      · have hn1 : ((left.length : Int) == 0) = false := by rw [beq_eq_false_iff_ne]; omega
        have hn2 : left.length ≠ 0 := hn
        have hk0 : 0 ≤ u % (left.length : Int) := Int.emod_nonneg _ (by omega)
        have hk1 : u % (left.length : Int) < (left.length : Int) := Int.emod_lt_of_pos _ (by omega)
        obtain ⟨k, hkk⟩ : ∃ k : Nat, u % (left.length : Int) = k := ⟨(u % (left.length : Int)).toNat, by omega⟩
        rw [hkk] at hk0 hk1
        have hk : k < left.length := by omega
        obtain ⟨r, n, hall, hcase⟩ := HUD.out k hk
        have HALL := Lib.hid hall
        have HCASE := Lib.hid hcase
        clear hall hcase hn
        go_wp2_with fail
        refine (rlvalid_any es A1 c1 w4 (s1.up b4) (by omega)).mono ?_
        rintro e w5 ⟨rfl, b5⟩
        rw [HLED.out]
        have B5 := below_up B4 B4.size b5
        have e5 := below_up e4 e4.size b5
        have b35 := below_up b4 b4.size b5
        have s25 := s2.up b35
        obtain ⟨bb, off, rfl, hbl, hcell⟩ := s25.at_ hk
        have q0 := hcell 0 _ rfl
        rw [Nat.add_zero] at q0
        clear hcell
        rcases HCASE.out with ⟨hun, hp0⟩ | ⟨m, hun, hml, ha1, ha2⟩
        · have HUN := Lib.hid hun
          have HP0 := Lib.hid hp0
          clear hun hp0
          go_wp2_with fail
          refine (undo_lit HUN.out A1 c1 w5 (s1.up b35) (by omega)).mono ?_
          rintro e w6 ⟨⟨A6, c6, rfl, _, s6⟩, b6⟩
          have B6 := below_up B5 B5.size b6
          have b36 := below_up b35 b35.size b6
          obtain ⟨hbl', hcell⟩ := sl_at_same (s2.up b36) hk
          have q7 := hcell 7 _ rfl
          clear hcell q0
          rw [HP0.out] at q7
          go_wp2_with fail
          go_ret
          exact ⟨ret_bool (by simp), B6⟩
        · have HUN := Lib.hid hun
          obtain ⟨av, hav⟩ : ∃ av, av = (decide (left[k].price = 0) && decide (n = 0)) := ⟨_, rfl⟩
          rw [← hav] at ha1
          have HAV := Lib.hid hav
          have HA1 := Lib.hid ha1
          have HA2 := Lib.hid (show agreeR m (left.take k ++ left.drop (k + 1)) V.ts V.p V.d = (true, 0) from ha2)
          have HL9 := Lib.hid (show (left.take k ++ left.drop (k + 1)).length ≤ left.length from drop1_len left k)
          clear hun ha1 ha2 hav
          go_wp2_with fail
          refine (undo_lit HUN.out A1 c1 w5 (s1.up b35) (by omega)).mono ?_
          rintro e w6 ⟨⟨A6, c6, rfl, _, s6⟩, b6⟩
          have B6 := below_up B5 B5.size b6
          have e6 := below_up e5 e5.size b6
          have b36 := below_up b35 b35.size b6
          clear q0
          have hM1 : (left.take k).length = k := by rw [List.length_take]; omega
          have hM2 : (left.drop (k + 1)).length = left.length - (k + 1) := List.length_drop
          have HM1 := Lib.hid hM1
          have HM2 := Lib.hid hM2
          clear hM1 hM2
          have hcap := HCAP.out
          have hp1 : (k : Int) + 1 ≤ (left.length : Int) := by omega
          have hp2 : k + 1 ≤ left.length := by omega
          have hp3 : k + 1 ≤ c2 := by omega
          have hp4 : k ≤ c2 := by omega
          have hp5 : (0 : Int) ≤ (k : Int) + 1 := by omega
          have hp6 : ((k : Int) + 1).toNat = k + 1 := by omega
          have hwr : IntKind.i64.wrap ((k : Int) + 1) = (k : Int) + 1 := by rw [IntKind.wrap_i64]; omega
          have hs6 : SlBill w6 (some ⟨bb, off, none⟩) left := s2.up b36
          obtain ⟨A', hA', hsl'⟩ := hs6.cut (k + 1) hcap
          clear hcap
          have hnil : OwnL (w6.drew.alloc (.cells #[] 31)) w6.heap.size 31 9 Bill.cs (.slice (some ⟨w6.heap.size, 0, none⟩) 0 0) [] := OwnL.of_block (cs := #[]) (g := w6.heap.size) (cap := 0) (heap_alloc_new w6.drew _) (Nat.le_refl _) rfl (by decide) rfl bill_len
          go_wp2_with fail
          go_region_law (first
            | (go_loud (refine step_append_all _ (by rfl) (.tmp 124) (.tmp 127) 22 31 (by rfl) w6.heap.size 9 72 Bill.cs elemBill bill_len bill_one _ [] (by rfl) hnil (some ⟨bb, off, none⟩) _ _ (left.take k) (by rw [HM1.out]; rfl) ((hs6.take k).below ((Below.refl _ _).drew.alloc (by simp) _)) (by rw [HM1.out]; simp; omega) (by first | omega | (simp; done) | (simp; omega)) (by first | omega | (simp; done) | (simp; omega)) ?_); intro v8 w8 hown8 hgrow8 hat8; rw [List.nil_append] at hown8; have hb8 : Below w6.heap.size w6 w8 := below_push ((Below.refl _ _).drew.alloc (by simp) _) hnil hgrow8 (by simp); have hz8 := hb8.size)
            | (go_loud (refine step_append_all _ (by rfl) (.tmp 128) (.tmp 132) 22 31 (by rfl) w6.heap.size 9 72 Bill.cs elemBill bill_len bill_one _ (left.take k) (by rfl) hown8 A' _ _ (left.drop (k + 1)) (by rw [HM2.out]; rfl) (hsl'.below hb8) (by rw [HM1.out, HM2.out]; omega) (by omega) hz8 ?_); intro v9 w9 hown9 hgrow9 hat9))
          all_goals
            have hb9 := below_push hb8 hown8 hgrow9 hz8
            have hz9 := hb9.size
            have B9 := below_up B6 B6.size hb9
            have e9 := below_up e6 e6.size hb9
            have b39 := below_up b36 b36.size hb9
            obtain ⟨A9, c9, rfl, _, _, hs9'⟩ := hown9.sl bill_len
            have hs9 : SlBill w9 A9 (left.take k ++ left.drop (k + 1)) := hs9'.more (by omega)
            have hl9 := HL9.out
            clear hs9' hown9 hown8 hA' hsl' hnil hs6 hgrow8 hgrow9 hat8 hat9
            generalize left.take k ++ left.drop (k + 1) = L9 at *
            have b69 := hb9
            obtain ⟨hbl9, hcell⟩ := sl_at_same (s2.up b39) hk
            have q0 := hcell 0 _ rfl
            have q1 := hcell 1 _ rfl
            have q2 := hcell 2 _ rfl
            have q3 := hcell 3 _ rfl
            have q4 := hcell 4 _ rfl
            have q5 := hcell 5 _ rfl
            have q6 := hcell 6 _ rfl
            have q7 := hcell 7 _ rfl
            have q8 := hcell 8 _ rfl
            rw [Nat.add_zero] at q0
            clear hcell
            go_wp2_with fail
            refine (tall_lit HALL.out At ct w9 (hts.up B9) (by omega)).mono ?_
            rintro e w10 ⟨⟨A10, c10, rfl⟩, b10⟩
            clear q0 q1 q2 q3 q4 q5 q6 q7 q8
            have B10 := below_up B9 B9.size b10
            have e10 := below_up e9 e9.size b10
            have b310 := below_up b39 b39.size b10
            have b610 := below_up b69 b69.size b10
            obtain ⟨⟨y0, y1⟩, ⟨x0, x1, x2, x3⟩, ly, lx⟩ := HX.out w10 e10
            go_wp2_with fail
            refine (agree_any m left V.ts V.p V.d A6 (some ⟨bb, off, none⟩) At c6 c2 ct w10 (s6.up b610) (s2.up b310) (hts.up B10) (by omega) (by unfold maxLen; omega) (by omega)).mono ?_
            rintro e w11 ⟨rfl, b11⟩
            rw [HA1.out]
            clear x0 x1 x2 x3 y0 y1 ly lx
            have B11 := below_up B10 B10.size b11
            have e11 := below_up e10 e10.size b11
            have b311 := below_up b310 b310.size b11
            have b611 := below_up b610 b610.size b11
            have b911 := below_up b10 b10.size b11
            obtain ⟨⟨y0, y1⟩, ⟨x0, x1, x2, x3⟩, ly, lx⟩ := HX.out w11 e11
            go_wp2_with fail
            refine (agree_any m L9 V.ts V.p V.d A6 A9 At c6 c9 ct w11 (s6.up b611) (hs9.up b911) (hts.up B11) (by omega) (by unfold maxLen; omega) (by omega)).mono ?_
            rintro e w12 ⟨rfl, b12⟩
            rw [HA2.out]
            clear x0 x1 x2 x3 y0 y1 ly lx
            have B12 := below_up B11 B11.size b12
            have b312 := below_up b311 b311.size b12
            obtain ⟨hbl12, hcell⟩ := sl_at_same (s2.up b312) hk
            have q7 := hcell 7 _ rfl
            clear hcell
            by_cases g1 : left[k].price = 0
            · rw [g1] at q7
              by_cases g2 : n = 0
              · obtain rfl : av = true := by rw [HAV.out, g1, g2]; rfl
                subst g2
                go_wp2_with fail
                go_ret
                exact ⟨ret_bool (by simp), B12⟩
              · obtain rfl : av = false := by rw [HAV.out, decide_eq_false g2]; simp
                have g2b : (n == 0) = false := by rw [beq_eq_false_iff_ne]; exact g2
                go_wp2_with fail
                go_ret
                exact ⟨ret_bool (by simp), B12⟩
            · obtain rfl : av = false := by rw [HAV.out, decide_eq_false g1]; rfl
              have g1b : (left[k].price == 0) = false := by rw [beq_eq_false_iff_ne]; exact g1
              generalize left[k].price = pv at *
              go_wp2_with fail
              go_ret
              exact ⟨ret_bool (by simp), B12⟩
end Go.Proofs.YtmlhoojcdidgkaaGreat
