/-
  The law 'ReturnsBroke': the walk.
-/
import Derived.Test.YtmlhoojcdidgkaaGreatRet11
import Derived.Test.YtmlhoojcdidgkaaGreatReBrokeP
import Derived.Test.YtmlhoojcdidgkaaGreatReApp
namespace Go.Proofs.YtmlhoojcdidgkaaGreat
set_option linter.unusedSimpArgs false
set_option linter.unusedVariables false
open Go.RowKit Go.Maps
open Go.Sort (grow size_grow)


set_option maxHeartbeats 4000000
set_option maxRecDepth 100000
theorem law_rebroke (V : Env) (bills : List Bill) (l : List Deed) (ch : Int) (A At Al : Option Addr) (c ct cl : Nat) (w : World) (hs : SlBill w A bills) (hts : SlTax w At V.ts) (hsl : SlDeed w Al l) (hst : ∀ x ∈ l, -9223372036854775808 ≤ x.stay ∧ x.stay ≤ 9223372036854775807) (hbig : l.length ≤ 4398046511040) (u0 : 0 ≤ ch) (u1 : ch ≤ 255) :
    Calls Tryz.prog 5 #[.slice A bills.length c, .slice At V.ts.length ct, .agg #[.int .i64 V.p, .int .i64 V.d], V.k.v, .slice Al l.length cl, .int .u8 ch] w fun e w' => e = .returned (.bool true) ∧ Below w.heap.size w w' := by
  have ha1 : 1 ≤ 1 + ch % 29 := by omega
  have ha2 : 1 + ch % 29 ≤ 29 := by omega
  obtain ⟨L9, hL9⟩ : ∃ L9, L9 = l ++ [(⟨9, 366, 1 + ch % 29, 0⟩ : Deed)] := ⟨_, rfl⟩
  have hl9 : L9.length = l.length + 1 := by rw [hL9]; simp
  have HST := Lib.hid hst
  clear hst
  cases hu : usableB V bills L9.length
  · have HL9 := Lib.hid hL9
    have HN9 := Lib.hid hl9
    clear hL9 hl9
    go_enter Tryz.func5, Tryz.ntmps5
    go_wp2_with fail
    refine name_calls (fun w0 hw0 => ?_)
    have b0 : Below w.heap.size w w0 := by rw [hw0]; exact (by repeat' (first | (with_reducible exact Below.refl _ _) | (with_reducible assumption) | (with_reducible refine below_drewN ?_ _) | (with_reducible refine Below.drew ?_) | (with_reducible refine below_regrown_up _ _ ?_ ?_) | (with_reducible refine Below.alloc ?_ ?_ _) | (with_reducible refine Below.setCell ?_ ?_ _) | (with_reducible refine below_up ?_ ?_ (by assumption)) | (with_reducible exact Nat.le_refl _) | omega | (simp; done) | (simp; omega)))
    have l0 : w.heap.size + 1 < w0.heap.size := by rw [hw0]; simp
    have HX : Hid (∀ W, Below w0.heap.size w0 W → ((W.cell? ⟨w.heap.size, 0, none⟩ = some (.int .i64 V.p) ∧ W.cell? ⟨w.heap.size, 1, none⟩ = some (.int .i64 V.d)) ∧ (W.cell? ⟨w.heap.size + 1, 0, none⟩ = some (.int .i64 V.k.fx) ∧ W.cell? ⟨w.heap.size + 1, 1, none⟩ = some (.int .i64 V.k.n) ∧ W.cell? ⟨w.heap.size + 1, 2, none⟩ = some (.int .i64 V.k.d) ∧ W.cell? ⟨w.heap.size + 1, 3, none⟩ = some (.int .i64 V.k.most)) ∧ w.heap.size < W.heap.size ∧ w.heap.size + 1 < W.heap.size)) := Lib.hid (fun W hb => by
      have e : ∀ b o, b < w0.heap.size → W.cell? ⟨b, o, none⟩ = w0.cell? ⟨b, o, none⟩ := fun b o h => hb.cell (p := ⟨b, o, none⟩) h
      have hz := hb.size
      refine ⟨⟨?_, ?_⟩, ⟨?_, ?_, ?_, ?_⟩, by omega, by omega⟩
      all_goals
        rw [e _ _ (by omega), hw0]
        go_simp)
    clear hw0
    refine (head33_any _).mono ?_
    rintro e w1 ⟨rfl, b1⟩
    have B1 : Below w.heap.size w w1 := below_up b0 b0.size b1
    have hnil : OwnL (w1.alloc (.cells #[] 51)) w1.heap.size 51 4 Deed.cs (.slice (some ⟨w1.heap.size, 0, none⟩) 0 0) [] := OwnL.of_block (cs := #[]) (g := w1.heap.size) (cap := 0) (heap_alloc_new w1 _) (Nat.le_refl _) rfl (by decide) rfl deed_len
    generalize hcc : 1 + ch % 29 = cc at *
    have SL1 := hsl.up B1
    go_wp2_with (first
      | (at_builtin; go_loud (refine wpList_append_big _ rfl (.tmp 37) (.tmp 38) 43 51 rfl w1.heap.size 4 32 Deed.cs elemDeed deed_len deed_one _ [] rfl hnil Al cl _ l rfl (SL1.below ((Below.refl _ _).alloc (by simp) _)) (by simp; omega) (by simp; omega) (by first | omega | (simp; done) | (simp; omega)) ?_); intro v8 w8 hown8 hgrow8 hat8; rw [List.nil_append] at hown8; have hb8 : Below w1.heap.size w1 w8 := below_push ((Below.refl _ _).alloc (by simp) _) hnil hgrow8 (by first | omega | (simp; done) | (simp; omega)); have hz8 := hb8.size)
      | (at_builtin; go_loud (refine wpList_append_big _ rfl (.tmp 39) (.tmp 42) 43 51 rfl w1.heap.size 4 32 Deed.cs elemDeed deed_len deed_one v8 l rfl (hown8.alloc _) (some ⟨w8.heap.size, 0, none⟩) 1 (w8.heap.size + 1) [⟨9, 366, cc, 0⟩] rfl (sl_of_box (cs := #[.int .i64 9, .int .i64 366, .int .i64 cc, .int .i64 0]) (fun _ => rfl) (fun o => cell_alloc_at rfl _ _ o) (by first | omega | (simp; done) | (simp; omega)) rfl) (by simp; omega) (by simp; omega) (by first | omega | (simp; done) | (simp; omega)) ?_); intro v9 w9 hown9 hgrow9 hat9; rw [← HL9.out] at hown9; have hb9 : Below w1.heap.size w1 w9 := below_push (by repeat' (first | (with_reducible exact Below.refl _ _) | (with_reducible assumption) | (with_reducible refine below_drewN ?_ _) | (with_reducible refine Below.drew ?_) | (with_reducible refine below_regrown_up _ _ ?_ ?_) | (with_reducible refine Below.alloc ?_ ?_ _) | (with_reducible refine Below.setCell ?_ ?_ _) | (with_reducible refine below_up ?_ ?_ (by assumption)) | (with_reducible exact Nat.le_refl _) | omega | (simp; done) | (simp; omega))) (hown8.alloc _) hgrow9 (by first | omega | (simp; done) | (simp; omega)); have BW9 := below_up B1 B1.size hb9; have e9 := below_up b1 b1.size hb9; obtain ⟨A9, c9, rfl, _, _, hs9'⟩ := hown9.sl deed_len; have hs9 : SlDeed w9 A9 L9 := hs9'.more (by omega); clear hs9' hown9 hown8 hnil hgrow9 hgrow8 hat8 hat9; obtain ⟨⟨y0, y1⟩, ⟨x0, x1, x2, x3⟩, ly, lx⟩ := HX.out w9 e9))
    refine (usable33_any V bills L9.length A At A9 c ct c9 w9 (hs.up BW9) (hts.up BW9)).mono ?_
    rintro e w2 ⟨rfl, b2⟩
    rw [hu]
    have B2 := below_up BW9 BW9.size b2
    have e2 := below_up e9 e9.size b2
    clear x0 x1 x2 x3 y0 y1 ly lx
    go_wp2_with fail
    go_ret
    exact ⟨ret_bool (by simp), B2⟩
  · obtain ⟨f1, f2, f3, f4, f5, f6, f7⟩ := usableB_iff.1 hu
    have hok := usableB_run hu
    have hr : runR V bills l = ((runAll V bills l).1.es, (runAll V bills l).2, 0) := by unfold runR; rw [if_neg (by omega), hok]; rfl
    have hr2 : runR V bills L9 = ((runAll V bills L9).1.es, (runAll V bills L9).2, 0) := by unfold runR; rw [if_neg (by omega), hok]; rfl
    have hrl := run_len (V := V) (bills := bills) l
    obtain ⟨hV, hbo, _, _⟩ := runOk_iff.1 hok
    have hlr := left_run hV hbo l
    obtain ⟨er, her, hcase⟩ := rebroke_run (V := V) (bills := bills) (l := l) hok (by omega) ha1 ha2
    have hled := run_led hok (l := l) (by omega)
    have hled2 := run_led hok (l := L9) (by omega)
    rw [← hL9] at her hcase
    have hel2 := (ledOk_iff.1 hled2).1
    have hel := (ledOk_iff.1 hled).1
    have hlen := leftF_len bills l (runAll V bills l).2
    obtain ⟨left, hleft⟩ : ∃ left, left = leftF bills l (runAll V bills l).2 := ⟨_, rfl⟩
    rw [← hleft] at hlr hcase hlen
    have hrl9 : (runAll V bills L9).2.length = l.length + 1 := by rw [her]; simp [hrl]
    have herx : ∀ h : l.length < (runAll V bills L9).2.length, (runAll V bills L9).2[l.length] = er := by
      rw [her]
      intro h
      simp [← hrl]
    have HM2 := Lib.hid (show ∀ x ∈ L9, -9223372036854775808 ≤ x.stay ∧ x.stay ≤ 9223372036854775807 from fun x hx => by
      rw [hL9] at hx
      rcases List.mem_append.1 hx with hx | hx
      · exact HST.out x hx
      · obtain rfl : x = ⟨9, 366, 1 + ch % 29, 0⟩ := by simpa using hx
        simp only
        omega)
    clear hV hbo hok hled hled2 hleft her f4 f5 f6 f7
    generalize (runAll V bills l).1.es = es at *
    generalize (runAll V bills l).2 = errs at *
    generalize (runAll V bills L9).1.es = es2 at *
    generalize (runAll V bills L9).2 = errs2 at *
    have hx1 : (0 : Int) ≤ (l.length : Int) := by omega
    have hx2 : (l.length : Int) < (errs2.length : Int) := by omega
    have hneq : ((errs2.length : Int) != (L9.length : Int)) = false := by rw [bne_eq_false_iff_eq]; omega
    have HR := Lib.hid hr
    have HR2 := Lib.hid hr2
    have HEL := Lib.hid hrl
    have HLE := Lib.hid hlr
    have HC := Lib.hid hcase
    have hlt2 : l.length < errs2.length := by rw [hrl9]; exact Nat.lt_succ_self _
    have HAT := Lib.hid (herx hlt2)
    have hl60 : l.length ≤ 60 := by omega
    have HN9 := Lib.hid hl9
    have HRL9 := Lib.hid hrl9
    have HL9 := Lib.hid hL9
    clear hr hr2 hlr hcase herx hL9 hl9 hrl9 hrl
    go_enter Tryz.func5, Tryz.ntmps5
    go_wp2_with fail
    refine name_calls (fun w0 hw0 => ?_)
    have b0 : Below w.heap.size w w0 := by rw [hw0]; exact (by repeat' (first | (with_reducible exact Below.refl _ _) | (with_reducible assumption) | (with_reducible refine below_drewN ?_ _) | (with_reducible refine Below.drew ?_) | (with_reducible refine below_regrown_up _ _ ?_ ?_) | (with_reducible refine Below.alloc ?_ ?_ _) | (with_reducible refine Below.setCell ?_ ?_ _) | (with_reducible refine below_up ?_ ?_ (by assumption)) | (with_reducible exact Nat.le_refl _) | omega | (simp; done) | (simp; omega)))
    have l0 : w.heap.size + 1 < w0.heap.size := by rw [hw0]; simp
    have HX : Hid (∀ W, Below w0.heap.size w0 W → ((W.cell? ⟨w.heap.size, 0, none⟩ = some (.int .i64 V.p) ∧ W.cell? ⟨w.heap.size, 1, none⟩ = some (.int .i64 V.d)) ∧ (W.cell? ⟨w.heap.size + 1, 0, none⟩ = some (.int .i64 V.k.fx) ∧ W.cell? ⟨w.heap.size + 1, 1, none⟩ = some (.int .i64 V.k.n) ∧ W.cell? ⟨w.heap.size + 1, 2, none⟩ = some (.int .i64 V.k.d) ∧ W.cell? ⟨w.heap.size + 1, 3, none⟩ = some (.int .i64 V.k.most)) ∧ w.heap.size < W.heap.size ∧ w.heap.size + 1 < W.heap.size)) := Lib.hid (fun W hb => by
      have e : ∀ b o, b < w0.heap.size → W.cell? ⟨b, o, none⟩ = w0.cell? ⟨b, o, none⟩ := fun b o h => hb.cell (p := ⟨b, o, none⟩) h
      have hz := hb.size
      refine ⟨⟨?_, ?_⟩, ⟨?_, ?_, ?_, ?_⟩, by omega, by omega⟩
      all_goals
        rw [e _ _ (by omega), hw0]
        go_simp)
    clear hw0
    refine (head33_any _).mono ?_
    rintro e w1 ⟨rfl, b1⟩
    have B1 : Below w.heap.size w w1 := below_up b0 b0.size b1
    have hnil : OwnL (w1.alloc (.cells #[] 51)) w1.heap.size 51 4 Deed.cs (.slice (some ⟨w1.heap.size, 0, none⟩) 0 0) [] := OwnL.of_block (cs := #[]) (g := w1.heap.size) (cap := 0) (heap_alloc_new w1 _) (Nat.le_refl _) rfl (by decide) rfl deed_len
    generalize hcc : 1 + ch % 29 = cc at *
    have SL1 := hsl.up B1
    go_wp2_with (first
      | (at_builtin; go_loud (refine wpList_append_big _ rfl (.tmp 37) (.tmp 38) 43 51 rfl w1.heap.size 4 32 Deed.cs elemDeed deed_len deed_one _ [] rfl hnil Al cl _ l rfl (SL1.below ((Below.refl _ _).alloc (by simp) _)) (by simp; omega) (by simp; omega) (by first | omega | (simp; done) | (simp; omega)) ?_); intro v8 w8 hown8 hgrow8 hat8; rw [List.nil_append] at hown8; have hb8 : Below w1.heap.size w1 w8 := below_push ((Below.refl _ _).alloc (by simp) _) hnil hgrow8 (by first | omega | (simp; done) | (simp; omega)); have hz8 := hb8.size)
      | (at_builtin; go_loud (refine wpList_append_big _ rfl (.tmp 39) (.tmp 42) 43 51 rfl w1.heap.size 4 32 Deed.cs elemDeed deed_len deed_one v8 l rfl (hown8.alloc _) (some ⟨w8.heap.size, 0, none⟩) 1 (w8.heap.size + 1) [⟨9, 366, cc, 0⟩] rfl (sl_of_box (cs := #[.int .i64 9, .int .i64 366, .int .i64 cc, .int .i64 0]) (fun _ => rfl) (fun o => cell_alloc_at rfl _ _ o) (by first | omega | (simp; done) | (simp; omega)) rfl) (by simp; omega) (by simp; omega) (by first | omega | (simp; done) | (simp; omega)) ?_); intro v9 w9 hown9 hgrow9 hat9; rw [← HL9.out] at hown9; have hb9 : Below w1.heap.size w1 w9 := below_push (by repeat' (first | (with_reducible exact Below.refl _ _) | (with_reducible assumption) | (with_reducible refine below_drewN ?_ _) | (with_reducible refine Below.drew ?_) | (with_reducible refine below_regrown_up _ _ ?_ ?_) | (with_reducible refine Below.alloc ?_ ?_ _) | (with_reducible refine Below.setCell ?_ ?_ _) | (with_reducible refine below_up ?_ ?_ (by assumption)) | (with_reducible exact Nat.le_refl _) | omega | (simp; done) | (simp; omega))) (hown8.alloc _) hgrow9 (by first | omega | (simp; done) | (simp; omega)); have BW9 := below_up B1 B1.size hb9; have e9 := below_up b1 b1.size hb9; obtain ⟨A9, c9, rfl, _, _, hs9'⟩ := hown9.sl deed_len; have hs9 : SlDeed w9 A9 L9 := hs9'.more (by omega); clear hs9' hown9 hown8 hnil hgrow9 hgrow8 hat8 hat9; obtain ⟨⟨y0, y1⟩, ⟨x0, x1, x2, x3⟩, ly, lx⟩ := HX.out w9 e9))
    refine (usable33_any V bills L9.length A At A9 c ct c9 w9 (hs.up BW9) (hts.up BW9)).mono ?_
    rintro e w2 ⟨rfl, b2⟩
    rw [hu]
    have B2 := below_up BW9 BW9.size b2
    have e2 := below_up e9 e9.size b2
    clear x0 x1 x2 x3 y0 y1 ly lx
    obtain ⟨⟨y0, y1⟩, ⟨x0, x1, x2, x3⟩, ly, lx⟩ := HX.out w2 e2
    go_wp2_with fail
    refine (run33_any (V := V) HR.out A At Al c ct cl w2 (hs.up B2) (hts.up B2) (hsl.up B2) (by omega) (by omega) (by omega) HEL.out HST.out).mono ?_
    rintro e w3 ⟨⟨A1, c1, A2, c2, rfl, s1, s2, hcap⟩, b3⟩
    rw [HLE.out] at s2 hcap ⊢
    have HCAP := Lib.hid hcap
    clear hcap
    have B3 := below_up B2 B2.size b3
    have e3 := below_up e2 e2.size b3
    clear x0 x1 x2 x3 y0 y1 ly lx
    obtain ⟨⟨y0, y1⟩, ⟨x0, x1, x2, x3⟩, ly, lx⟩ := HX.out w3 e3
    have e93 := below_up b2 b2.size b3
    go_wp2_with fail
    refine (frun_lit (V := V) HR2.out A At A9 c ct c9 w3 (hs.up B3) (hts.up B3) (hs9.up e93) (by omega) (by omega) (by omega) HM2.out).mono ?_
    rintro e w4 ⟨⟨A4, c4, A5, c5, rfl, s4, s5⟩, b4⟩
    clear x0 x1 x2 x3 y0 y1 ly lx
    have B4 := below_up B3 B3.size b4
    have e4 := below_up e3 e3.size b4
    obtain ⟨ba, oa, rfl, hbl, hcell⟩ := s5.at_ (k := l.length) (by omega)
    have q0 := hcell 0 _ rfl
    rw [Nat.add_zero, Nat.mul_one, HAT.out] at q0
    clear hcell
    rcases HC.out with ⟨hne, rfl⟩ | ⟨rfl, av, nv, hbr1, hbr2, hbal, hn0, hag⟩
    · have heb : (er != 0) = true := by simpa using hne
      clear hne
      go_wp2_with fail
      refine (rsame_any es2 es2 A1 A4 c1 c4 _ (s1.up b4) s4 (by omega) (by omega)).mono ?_
      rintro e w8 ⟨rfl, b8⟩
      rw [decide_eq_true rfl]
      go_wp2_with fail
      go_ret
      exact ⟨ret_bool (by simp), (below_up B4 B4.size b8)⟩
    · have HBR1 := Lib.hid hbr1
      have HBR2 := Lib.hid hbr2
      have HBAL := Lib.hid hbal
      have HAG := Lib.hid hag
      clear hbr1 hbr2 hbal hag
      obtain ⟨x1, y1, hxy⟩ : ∃ x1 y1, agreeR es left V.ts V.p V.d = (x1, y1) := ⟨_, _, rfl⟩
      have HXY := Lib.hid hxy
      clear hxy
      go_wp2_with fail
      refine (rbroke_any es A1 c1 cc w4 (s1.up b4) (by omega)).mono ?_
      rintro e w5 ⟨rfl, b5⟩
      rw [HBR1.out]
      have B5 := below_up B4 B4.size b5
      have e5 := below_up e4 e4.size b5
      go_wp2_with fail
      refine (rbroke_any es2 A4 c4 cc w5 (s4.up b5) (by omega)).mono ?_
      rintro e w6 ⟨rfl, b6⟩
      rw [HBR2.out]
      have B6 := below_up B5 B5.size b6
      have e6 := below_up e5 e5.size b6
      have b56 := below_up b5 b5.size b6
      go_wp2_with fail
      refine (lbalance_any es2 A4 c4 (200 + cc) 366 w6 (s4.up b56) (by omega)).mono ?_
      rintro e w7 ⟨rfl, b7⟩
      rw [HBAL.out]
      have B7 := below_up B6 B6.size b7
      have e7 := below_up e6 e6.size b7
      have b57 := below_up b56 b56.size b7
      have b47 := below_up b4 b4.size b57
      obtain ⟨⟨y0, y1⟩, ⟨x0, x1, x2, x3⟩, ly, lx⟩ := HX.out w7 e7
      go_wp2_with fail
      refine (agree_any es left V.ts V.p V.d A1 A2 At c1 c2 ct w7 (s1.up b47) (s2.up b47) (hts.up B7) (by omega) (by unfold maxLen; omega) (by omega)).mono ?_
      rintro e w8 ⟨rfl, b8⟩
      rw [HXY.out]
      clear x0 x1 x2 x3 y0 y1 ly lx
      have B8 := below_up B7 B7.size b8
      have e8 := below_up e7 e7.size b8
      have b58 := below_up b57 b57.size b8
      have b48 := below_up b47 b47.size b8
      obtain ⟨⟨y0, y1⟩, ⟨x0, x1, x2, x3⟩, ly, lx⟩ := HX.out w8 e8
      go_wp2_with fail
      refine (agree_any es2 left V.ts V.p V.d A4 A2 At c4 c2 ct w8 (s4.up b58) (s2.up b48) (hts.up B8) (by omega) (by unfold maxLen; omega) (by omega)).mono ?_
      rintro e w9 ⟨rfl, b9⟩
      rw [HAG.out, HXY.out]
      clear x0 x1 x2 x3 y0 y1 ly lx
      have B9 := below_up B8 B8.size b9
      cases x1
      all_goals
        go_wp2_with fail
        go_ret
        exact ⟨ret_bool (by simp), B9⟩
end Go.Proofs.YtmlhoojcdidgkaaGreat
