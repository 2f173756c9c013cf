/-
  The law 'FolioAgrees': the walk.
-/
import Derived.Test.YtmlhoojcdidgkaaFoAgP
namespace Go.Proofs.Ytmlhoojcdidgkaa
set_option linter.unusedSimpArgs false
set_option linter.unusedVariables false
open Go.RowKit
open Go.Sort (grow size_grow)


set_option maxHeartbeats 4000000
set_option maxRecDepth 100000
theorem law_agrees (V : Env) (bills : List Bill) (l : List Deed) (u : Int) (A At Al : Option Addr) (c ct cl : Nat) (w : World) (hs : SlBill w A bills) (hts : SlTax w At V.ts) (hsl : SlDeed w Al l) (hst : ∀ x ∈ l, -9223372036854775808 ≤ x.stay ∧ x.stay ≤ 9223372036854775807) (u0 : 0 ≤ u) (u1 : u ≤ 255) :
    Calls Try.prog 9 #[.slice A bills.length c, .slice At V.ts.length ct, .agg #[.int .i64 V.p, .int .i64 V.d], V.k.v, .slice Al l.length cl, .int .u8 u] w fun e w' => e = .returned (.bool true) ∧ Below w.heap.size w w' := by
  have ha1 : 0 ≤ u % 30 := by omega
  have ha2 : u % 30 ≤ 29 := by omega
  have HST := Lib.hid hst
  clear hst
  cases hfew : fewB bills.length V.ts.length l.length
  · go_enter Try.func9, Try.ntmps9
    go_wp2_with fail
    refine name_calls (fun w0 hw0 => ?_)
    have b0 : Below w.heap.size w w0 := by rw [hw0]; exact (by repeat' (first | (with_reducible exact Below.refl _ _) | (with_reducible assumption) | (with_reducible refine below_drewN ?_ _) | (with_reducible refine Below.drew ?_) | (with_reducible refine below_regrown_up _ _ ?_ ?_) | (with_reducible refine Below.alloc ?_ ?_ _) | (with_reducible refine Below.setCell ?_ ?_ _) | (with_reducible refine below_up ?_ ?_ (by assumption)) | (with_reducible exact Nat.le_refl _) | omega | (simp; done) | (simp; omega)))
    have l0 : w.heap.size + 1 < w0.heap.size := by rw [hw0]; simp
    have HX : Hid (∀ W, Below w0.heap.size w0 W → ((W.cell? ⟨w.heap.size, 0, none⟩ = some (.int .i64 V.p) ∧ W.cell? ⟨w.heap.size, 1, none⟩ = some (.int .i64 V.d)) ∧ (W.cell? ⟨w.heap.size + 1, 0, none⟩ = some (.int .i64 V.k.fx) ∧ W.cell? ⟨w.heap.size + 1, 1, none⟩ = some (.int .i64 V.k.n) ∧ W.cell? ⟨w.heap.size + 1, 2, none⟩ = some (.int .i64 V.k.d) ∧ W.cell? ⟨w.heap.size + 1, 3, none⟩ = some (.int .i64 V.k.most)) ∧ w.heap.size < W.heap.size ∧ w.heap.size + 1 < W.heap.size)) := Lib.hid (fun W hb => by
      have e : ∀ b o, b < w0.heap.size → W.cell? ⟨b, o, none⟩ = w0.cell? ⟨b, o, none⟩ := fun b o h => hb.cell (p := ⟨b, o, none⟩) h
      have hz := hb.size
      refine ⟨⟨?_, ?_⟩, ⟨?_, ?_, ?_, ?_⟩, by omega, by omega⟩
      all_goals
        rw [e _ _ (by omega), hw0]
        go_simp)
    clear hw0
    refine (head32_any _).mono ?_
    rintro e w1 ⟨rfl, b1⟩
    have B1 : Below w.heap.size w w1 := below_up b0 b0.size b1
    go_wp2_with fail
    refine (few32_any _ _ _ _ _ _ _ _ _ _).mono ?_
    rintro e w1' ⟨rfl, rfl⟩
    rw [hfew]
    go_wp2_with fail
    go_ret
    exact ⟨ret_bool (by simp), B1⟩
  obtain ⟨f1, f2, f3⟩ := fewB_iff.1 hfew
  cases hok : runOk V bills
  · have hr : runR V bills l = ([], [], 1) := by unfold runR; rw [if_neg (by omega), hok]; rfl
    have HR := Lib.hid hr
    clear hr
    go_enter Try.func9, Try.ntmps9
    go_wp2_with fail
    refine name_calls (fun w0 hw0 => ?_)
    have b0 : Below w.heap.size w w0 := by rw [hw0]; exact (by repeat' (first | (with_reducible exact Below.refl _ _) | (with_reducible assumption) | (with_reducible refine below_drewN ?_ _) | (with_reducible refine Below.drew ?_) | (with_reducible refine below_regrown_up _ _ ?_ ?_) | (with_reducible refine Below.alloc ?_ ?_ _) | (with_reducible refine Below.setCell ?_ ?_ _) | (with_reducible refine below_up ?_ ?_ (by assumption)) | (with_reducible exact Nat.le_refl _) | omega | (simp; done) | (simp; omega)))
    have l0 : w.heap.size + 1 < w0.heap.size := by rw [hw0]; simp
    have HX : Hid (∀ W, Below w0.heap.size w0 W → ((W.cell? ⟨w.heap.size, 0, none⟩ = some (.int .i64 V.p) ∧ W.cell? ⟨w.heap.size, 1, none⟩ = some (.int .i64 V.d)) ∧ (W.cell? ⟨w.heap.size + 1, 0, none⟩ = some (.int .i64 V.k.fx) ∧ W.cell? ⟨w.heap.size + 1, 1, none⟩ = some (.int .i64 V.k.n) ∧ W.cell? ⟨w.heap.size + 1, 2, none⟩ = some (.int .i64 V.k.d) ∧ W.cell? ⟨w.heap.size + 1, 3, none⟩ = some (.int .i64 V.k.most)) ∧ w.heap.size < W.heap.size ∧ w.heap.size + 1 < W.heap.size)) := Lib.hid (fun W hb => by
      have e : ∀ b o, b < w0.heap.size → W.cell? ⟨b, o, none⟩ = w0.cell? ⟨b, o, none⟩ := fun b o h => hb.cell (p := ⟨b, o, none⟩) h
      have hz := hb.size
      refine ⟨⟨?_, ?_⟩, ⟨?_, ?_, ?_, ?_⟩, by omega, by omega⟩
      all_goals
        rw [e _ _ (by omega), hw0]
        go_simp)
    clear hw0
    refine (head32_any _).mono ?_
    rintro e w1 ⟨rfl, b1⟩
    have B1 : Below w.heap.size w w1 := below_up b0 b0.size b1
    go_wp2_with fail
    refine (few32_any _ _ _ _ _ _ _ _ _ _).mono ?_
    rintro e w1' ⟨rfl, rfl⟩
    rw [hfew]
    generalize u % 30 = cc at *
    obtain ⟨⟨y0, y1⟩, ⟨x0, x1, x2, x3⟩, ly, lx⟩ := HX.out w1 b1
    go_wp2_with fail
    refine (frun_lit (V := V) HR.out A At Al c ct cl w1 (hs.up B1) (hts.up B1) (hsl.up B1) (by omega) (by omega) (by omega) HST.out).mono ?_
    rintro e w2 ⟨⟨A1, c1, A2, c2, rfl, s1, s2⟩, b2⟩
    have B2 := below_up B1 B1.size b2
    have b02 := below_up b1 b1.size b2
    clear x0 x1 x2 x3 y0 y1 ly lx
    go_wp2_with fail
    go_ret
    exact ⟨ret_bool (by simp), B2⟩
  have hr : runR V bills l = ((runAll V bills l).1.es, (runAll V bills l).2, 0) := by unfold runR; rw [if_neg (by omega), hok]; rfl
  have hrl := run_len (V := V) (bills := bills) l
  have hled := run_led hok (l := l) (by omega)
  obtain ⟨hV, hbo, _, _⟩ := runOk_iff.1 hok
  have hes := (run_ok hV hbo l).1.len
  have HAG : Hid ((∀ b ∈ ofCh bills (u % 30), didR l (runAll V bills l).2 5 b.stay = true) → agrees (comms V.p V.d (ofCh bills (u % 30))) (comms V.p V.d (ofCh bills (u % 30))) (ofCh bills (u % 30)) (runAll V bills l).1.es (700 + u % 30) = true) := Lib.hid (agrees_run hV hbo l ha1 ha2)
  have HST3 : Hid ((1000000000 < (comms V.p V.d (ofCh bills (u % 30))).sum ∧ stmtR V.p V.d bills (u % 30) = ([], 0, 3)) ∨ stmtR V.p V.d bills (u % 30) = (comms V.p V.d (ofCh bills (u % 30)), (comms V.p V.d (ofCh bills (u % 30))).sum, 0)) := Lib.hid (by
    by_cases h : 1000000000 < (comms V.p V.d (ofCh bills (u % 30))).sum
    · exact .inl ⟨h, stmtR_far (by omega) hV.p hbo (inB_iff.2 ⟨ha1, ha2⟩) h⟩
    · exact .inr (stmtR_ok (by omega) hV.p hbo (inB_iff.2 ⟨ha1, ha2⟩) h))
  clear hV hbo hok
  generalize (runAll V bills l).1.es = es at *
  generalize (runAll V bills l).2 = errs at *
  have HR := Lib.hid hr
  have HLD := Lib.hid hled
  have HRL := Lib.hid hrl
  have hneq : ((errs.length : Int) != (l.length : Int)) = false := by rw [bne_eq_false_iff_eq]; omega
  have hneq2 : (errs.length != l.length) = false := by rw [bne_eq_false_iff_eq]; omega
  clear hr hrl hled
  go_enter Try.func9, Try.ntmps9
  go_wp2_with fail
  refine name_calls (fun w0 hw0 => ?_)
  have b0 : Below w.heap.size w w0 := by rw [hw0]; exact (by repeat' (first | (with_reducible exact Below.refl _ _) | (with_reducible assumption) | (with_reducible refine below_drewN ?_ _) | (with_reducible refine Below.drew ?_) | (with_reducible refine below_regrown_up _ _ ?_ ?_) | (with_reducible refine Below.alloc ?_ ?_ _) | (with_reducible refine Below.setCell ?_ ?_ _) | (with_reducible refine below_up ?_ ?_ (by assumption)) | (with_reducible exact Nat.le_refl _) | omega | (simp; done) | (simp; omega)))
  have l0 : w.heap.size + 1 < w0.heap.size := by rw [hw0]; simp
  have HX : Hid (∀ W, Below w0.heap.size w0 W → ((W.cell? ⟨w.heap.size, 0, none⟩ = some (.int .i64 V.p) ∧ W.cell? ⟨w.heap.size, 1, none⟩ = some (.int .i64 V.d)) ∧ (W.cell? ⟨w.heap.size + 1, 0, none⟩ = some (.int .i64 V.k.fx) ∧ W.cell? ⟨w.heap.size + 1, 1, none⟩ = some (.int .i64 V.k.n) ∧ W.cell? ⟨w.heap.size + 1, 2, none⟩ = some (.int .i64 V.k.d) ∧ W.cell? ⟨w.heap.size + 1, 3, none⟩ = some (.int .i64 V.k.most)) ∧ w.heap.size < W.heap.size ∧ w.heap.size + 1 < W.heap.size)) := Lib.hid (fun W hb => by
    have e : ∀ b o, b < w0.heap.size → W.cell? ⟨b, o, none⟩ = w0.cell? ⟨b, o, none⟩ := fun b o h => hb.cell (p := ⟨b, o, none⟩) h
    have hz := hb.size
    refine ⟨⟨?_, ?_⟩, ⟨?_, ?_, ?_, ?_⟩, by omega, by omega⟩
    all_goals
      rw [e _ _ (by omega), hw0]
      go_simp)
  clear hw0
  refine (head32_any _).mono ?_
  rintro e w1 ⟨rfl, b1⟩
  have B1 : Below w.heap.size w w1 := below_up b0 b0.size b1
  go_wp2_with fail
  refine (few32_any _ _ _ _ _ _ _ _ _ _).mono ?_
  rintro e w1' ⟨rfl, rfl⟩
  rw [hfew]
  generalize u % 30 = cc at *
  obtain ⟨⟨y0, y1⟩, ⟨x0, x1, x2, x3⟩, ly, lx⟩ := HX.out w1 b1
  go_wp2_with fail
  refine (frun_lit (V := V) HR.out A At Al c ct cl w1 (hs.up B1) (hts.up B1) (hsl.up B1) (by omega) (by omega) (by omega) HST.out).mono ?_
  rintro e w2 ⟨⟨A1, c1, A2, c2, rfl, s1, s2⟩, b2⟩
  have B2 := below_up B1 B1.size b2
  have b02 := below_up b1 b1.size b2
  clear x0 x1 x2 x3 y0 y1 ly lx
  go_wp2_with fail
  refine (rOf_any bills A c cc w2 (hs.up B2) (by omega)).mono ?_
  rintro e w3 ⟨⟨v, rfl, hO⟩, b3⟩
  have B3 := below_up B2 B2.size b3
  have b03 := below_up b02 b02.size b3
  obtain ⟨A5, c5, rfl, _, _, hs5⟩ := hO.sl bill_len
  have S23 := s2.up b3
  have S13 := s1.up b3
  have hol := ofCh_len bills cc
  obtain ⟨own, hown⟩ : ∃ own, own = ofCh bills cc := ⟨_, rfl⟩
  rw [← hown] at hol hs5 HAG HST3 ⊢
  have HOW := Lib.hid hown
  clear hown hO
  go_wp2_with fail
  go_loopw [63] (fun i wr => ∃ m : Nat, m ≤ own.length ∧ i = .int .i64 m ∧ Hid (∀ j (h : j < own.length), j < m → didR l errs 5 own[j].stay = true) ∧ Below w3.heap.size w3 wr) (fun i _ => own.length - (intOf i).toNat)
  case atStart => exact ⟨0, by omega, rfl, Lib.hid (fun j _ h => absurd h (by omega)), Below.refl _ _⟩
  case round =>
    obtain ⟨m, hm, rfl, hn, hbw⟩ := hrel
    have hbz := hbw.size
    have hBw := below_up B3 B3.size hbw
    by_cases hlt : m < own.length
    · have hx1 : (0 : Int) ≤ (m : Int) := by omega
      have hx2 : (m : Int) < (own.length : Int) := by omega
      obtain ⟨bb, off, rfl, hbl, hcell⟩ := (hs5.up hbw).at_ hlt
      have q0 := hcell 0 _ rfl
      have q1 := hcell 1 _ rfl
      have q2 := hcell 2 _ rfl
      have q3 := hcell 3 _ rfl
      have q4 := hcell 4 _ rfl
      have q5 := hcell 5 _ rfl
      have q6 := hcell 6 _ rfl
      have q7 := hcell 7 _ rfl
      have q8 := hcell 8 _ rfl
      rw [Nat.add_zero] at q0
      clear hcell
      cases hd : didR l errs 5 own[m].stay
      · have HD := Lib.hid hd
        clear hd
        go_wp2_with fail
        refine name_calls (fun w5 hw5 => ?_)
        have b5 : Below wr.heap.size wr w5 := by rw [hw5]; exact (by repeat' (first | (with_reducible exact Below.refl _ _) | (with_reducible assumption) | (with_reducible refine below_drewN ?_ _) | (with_reducible refine Below.drew ?_) | (with_reducible refine below_regrown_up _ _ ?_ ?_) | (with_reducible refine Below.alloc ?_ ?_ _) | (with_reducible refine Below.setCell ?_ ?_ _) | (with_reducible refine below_up ?_ ?_ (by assumption)) | (with_reducible exact Nat.le_refl _) | omega | (simp; done) | (simp; omega)))
        clear hw5
        refine (did_any l errs Al A2 cl c2 5 own[m].stay w5 (hsl.up (below_up hBw hBw.size b5)) ((S23.up hbw).up b5) HRL.out (by omega)).mono ?_
        rintro e w6 ⟨rfl, b6⟩
        rw [HD.out]
        have B6 := below_up (below_up hBw hBw.size b5) (by have := b5.size; have := hBw.size; omega) b6
        go_wp2_with fail
        go_ret
        exact ⟨ret_bool (by simp), B6⟩
      · have HD := Lib.hid hd
        clear hd
        go_wp2_with fail
        refine name_calls (fun w5 hw5 => ?_)
        have b5 : Below wr.heap.size wr w5 := by rw [hw5]; exact (by repeat' (first | (with_reducible exact Below.refl _ _) | (with_reducible assumption) | (with_reducible refine below_drewN ?_ _) | (with_reducible refine Below.drew ?_) | (with_reducible refine below_regrown_up _ _ ?_ ?_) | (with_reducible refine Below.alloc ?_ ?_ _) | (with_reducible refine Below.setCell ?_ ?_ _) | (with_reducible refine below_up ?_ ?_ (by assumption)) | (with_reducible exact Nat.le_refl _) | omega | (simp; done) | (simp; omega)))
        clear hw5
        refine (did_any l errs Al A2 cl c2 5 own[m].stay w5 (hsl.up (below_up hBw hBw.size b5)) ((S23.up hbw).up b5) HRL.out (by omega)).mono ?_
        rintro e w6 ⟨rfl, b6⟩
        rw [HD.out]
        have b36 := below_up (below_up hbw hbz b5) (by have := b5.size; omega) b6
        go_wp2_with fail
        go_roundw
        case rel =>
          refine ⟨m + 1, by omega, by go_num, Lib.hid (fun j h hj => ?_), b36⟩
          by_cases e : j = m
          · subst e; exact HD.out
          · exact hn.out j h (by omega)
        case measure => simp [intOf]; omega
    · obtain rfl : m = own.length := by omega
      have hag := HAG.out (fun b hb => by
        obtain ⟨j, hj, rfl⟩ := List.getElem_of_mem hb
        exact hn.out j hj hj)
      have b0w := below_up b03 b03.size hbw
      obtain ⟨⟨y0, y1⟩, ⟨x0, x1, x2, x3⟩, ly, lx⟩ := HX.out wr b0w
      rcases HST3.out with ⟨_, hs3⟩ | hs3
      · have HS3 := Lib.hid hs3
        clear hs3 hag
        go_wp2_with fail
        refine (cstmt_lit HS3.out A c wr (hs.up hBw) (by unfold maxLen; omega)).mono ?_
        rintro e w5 ⟨⟨A6, c6, rfl, s6⟩, b5⟩
        have B5 := below_up hBw hBw.size b5
        clear x0 x1 x2 x3 y0 y1 ly lx
        go_wp2_with fail
        go_ret
        exact ⟨ret_bool (by simp), B5⟩
      · have har : agreesR V.p V.d bills cc (comms V.p V.d own) es = (true, 0) := by
          unfold agreesR
          rw [hs3, HLD.out, ← HOW.out, hag]
          simp
        have HS3 := Lib.hid hs3
        have HAR := Lib.hid har
        clear hs3 hag har
        go_wp2_with fail
        refine (cstmt_lit HS3.out A c wr (hs.up hBw) (by unfold maxLen; omega)).mono ?_
        rintro e w5 ⟨⟨A6, c6, rfl, s6⟩, b5⟩
        have B5 := below_up hBw hBw.size b5
        have b35 := below_up hbw hbz b5
        clear x0 x1 x2 x3 y0 y1 ly lx
        obtain ⟨⟨y0, y1⟩, ⟨x0, x1, x2, x3⟩, ly, lx⟩ := HX.out w5 (below_up b0w b0w.size b5)
        have hcl : (comms V.p V.d own).length ≤ maxLen := by unfold comms maxLen; rw [List.length_map]; omega
        go_wp2_with fail
        refine (cagrees_lit HAR.out A c A6 c6 A1 c1 w5 (hs.up B5) (by unfold maxLen; omega) s6 hcl (S13.up b35) (by omega)).mono ?_
        rintro e w6 ⟨rfl, b6⟩
        clear x0 x1 x2 x3 y0 y1 ly lx
        have B6 := below_up B5 B5.size b6
        go_wp2_with fail
        go_ret
        exact ⟨ret_bool (by simp), B6⟩
end Go.Proofs.Ytmlhoojcdidgkaa
