/-
  The law 'FolioLedgers': the walk.
-/
import Derived.Test.YtmlhoojcdidgkaaFoRefused
import Derived.Test.YtmlhoojcdidgkaaM13
namespace Go.Proofs.Ytmlhoojcdidgkaa
set_option linter.unusedSimpArgs false
set_option linter.unusedVariables false
open Go.RowKit
open Go.Sort (grow size_grow)


set_option maxHeartbeats 4000000
set_option maxRecDepth 100000
theorem run_led {V : Env} {bills : List Bill} {l : List Deed} (hok : runOk V bills = true) (hl : l.length ≤ 500) : ledOk (runAll V bills l).1.es = true := by
  obtain ⟨hV, hb, _, _⟩ := runOk_iff.1 hok
  have h := (run_ok hV hb l).1
  exact ledOk_iff.2 ⟨by have := h.len; omega, fun e he => (h.es e he).1, h.rises⟩
def upK (l : List Entry) (day : Int) (k : Nat) : Int := bal (fun a => inB a 100 (100 * (k : Int) - 1)) l day
theorem upK_one (l : List Entry) (day : Int) : upK l day 1 = 0 := bal_none (fun a => inB_f (by omega)) l day
theorem upK_next (l : List Entry) (day : Int) {k : Nat} (h : 1 ≤ k) : upK l day (k + 1) = upK l day k + bal (ofKind k) l day := by
  have := bal_next (lo := 100) (mid := 100 * (k : Int) - 1) (hi := 100 * ((k + 1 : Nat) : Int) - 1) (by omega) (by omega) l day
  unfold upK
  rw [this]
  congr 2
  funext a
  unfold ofKind
  congr 1 <;> omega
theorem upK_ten {l : List Entry} (h : ledOk l = true) (day : Int) : upK l day 10 = 0 := bal_all (fun a h1 h2 => inB_t h1 (by omega)) (ledOk_iff.1 h).2.1 day
theorem ledgers_yes (V : Env) (bills : List Bill) (l : List Deed) (day dd : Int) (A At Al : Option Addr) (c ct cl : Nat) (w : World) (hs : SlBill w A bills) (hts : SlTax w At V.ts) (hsl : SlDeed w Al l) (hst : ∀ x ∈ l, -9223372036854775808 ≤ x.stay ∧ x.stay ≤ 9223372036854775807) (hfew : fewB bills.length V.ts.length l.length = true) (hok : runOk V bills = true)
    (hdd : (day < 0 ∧ dd = 0) ∨ (0 ≤ day ∧ day ≤ 366 ∧ dd = day) ∨ (366 < day ∧ dd = 366)) :
    Calls Try.prog 7 #[.slice A bills.length c, .slice At V.ts.length ct, .agg #[.int .i64 V.p, .int .i64 V.d], V.k.v, .slice Al l.length cl, .int .i64 day] w fun e w' => e = .returned (.bool true) ∧ Below w.heap.size w w' := by
  obtain ⟨f1, f2, f3⟩ := fewB_iff.1 hfew
  have HST := Lib.hid hst
  clear hst
  have hr : runR V bills l = ((runAll V bills l).1.es, (runAll V bills l).2, 0) := by unfold runR; rw [if_neg (by omega), hok]; rfl
  have hrl := run_len (V := V) (bills := bills) l
  have hled := run_led hok (l := l) (by omega)
  generalize (runAll V bills l).1.es = es at *
  generalize (runAll V bills l).2 = errs at *
  have HR := Lib.hid hr
  have hneq : ((errs.length : Int) != (l.length : Int)) = false := by rw [bne_eq_false_iff_eq]; omega
  have hneq2 : (errs.length != l.length) = false := by rw [bne_eq_false_iff_eq]; omega
  have hel := (ledOk_iff.1 hled).1
  have HLD := Lib.hid hled
  have d0 : 0 ≤ dd ∧ dd ≤ 366 := by omega
  clear hr hrl hok
  rcases hdd with ⟨h1, rfl⟩ | ⟨h1, h2, hdd⟩ | ⟨h1, rfl⟩
  · go_enter Try.func7, Try.ntmps7
    go_wp2_with fail
    refine name_calls (fun w0 hw0 => ?_)
    have b0 : Below w.heap.size w w0 := by rw [hw0]; exact (by repeat' (first | (with_reducible exact Below.refl _ _) | (with_reducible assumption) | (with_reducible refine below_drewN ?_ _) | (with_reducible refine Below.drew ?_) | (with_reducible refine below_regrown_up _ _ ?_ ?_) | (with_reducible refine Below.alloc ?_ ?_ _) | (with_reducible refine Below.setCell ?_ ?_ _) | (with_reducible refine below_up ?_ ?_ (by assumption)) | (with_reducible exact Nat.le_refl _) | omega | (simp; done) | (simp; omega)))
    have l0 : w.heap.size + 1 < w0.heap.size := by rw [hw0]; simp
    have HX : Hid (∀ W, Below w0.heap.size w0 W → ((W.cell? ⟨w.heap.size, 0, none⟩ = some (.int .i64 V.p) ∧ W.cell? ⟨w.heap.size, 1, none⟩ = some (.int .i64 V.d)) ∧ (W.cell? ⟨w.heap.size + 1, 0, none⟩ = some (.int .i64 V.k.fx) ∧ W.cell? ⟨w.heap.size + 1, 1, none⟩ = some (.int .i64 V.k.n) ∧ W.cell? ⟨w.heap.size + 1, 2, none⟩ = some (.int .i64 V.k.d) ∧ W.cell? ⟨w.heap.size + 1, 3, none⟩ = some (.int .i64 V.k.most)) ∧ w.heap.size < W.heap.size ∧ w.heap.size + 1 < W.heap.size)) := Lib.hid (fun W hb => by
      have e : ∀ b o, b < w0.heap.size → W.cell? ⟨b, o, none⟩ = w0.cell? ⟨b, o, none⟩ := fun b o h => hb.cell (p := ⟨b, o, none⟩) h
      have hz := hb.size
      refine ⟨⟨?_, ?_⟩, ⟨?_, ?_, ?_, ?_⟩, by omega, by omega⟩
      all_goals
        rw [e _ _ (by omega), hw0]
        go_simp)
    clear hw0
    refine (head32_any _).mono ?_
    rintro e w1 ⟨rfl, b1⟩
    have B1 : Below w.heap.size w w1 := below_up b0 b0.size b1
    go_wp2_with fail
    refine (few32_any _ _ _ _ _ _ _ _ _ _).mono ?_
    rintro e w1' ⟨rfl, rfl⟩
    rw [hfew]
    obtain ⟨⟨y0, y1⟩, ⟨x0, x1, x2, x3⟩, ly, lx⟩ := HX.out w1 b1
    go_wp2_with fail
    refine (frun_lit (V := V) HR.out A At Al c ct cl w1 (hs.up B1) (hts.up B1) (hsl.up B1) (by omega) (by omega) (by omega) HST.out).mono ?_
    rintro e w2 ⟨⟨A1, c1, A2, c2, rfl, s1, s2⟩, b2⟩
    have B2 := below_up B1 B1.size b2
    have b02 := below_up b1 b1.size b2
    clear x0 x1 x2 x3 y0 y1 ly lx
    go_wp2_with fail
    refine (lvalid_any es A1 c1 _ s1 (by omega)).mono ?_
    rintro e w3 ⟨rfl, b3⟩
    rw [HLD.out]
    have B3 := below_up B2 B2.size b3
    have S3 := s1.up b3
    go_wp2_with fail
    go_loopw [13, 17, 18] (fun up sv kv wr => ∃ k : Nat, 1 ≤ k ∧ k ≤ 10 ∧ kv = .int .i64 k ∧ up = .bool true ∧ sv = .int .i64 (upK es 0 k) ∧ Below w3.heap.size w3 wr) (fun _ _ kv _ => 10 - (intOf kv).toNat)
    case atStart => exact ⟨1, by omega, by omega, rfl, rfl, by rw [upK_one], Below.refl _ _⟩
    case round =>
      obtain ⟨k, k0, k1, rfl, rfl, rfl, hbw⟩ := hrel
      have hbz := hbw.size
      by_cases hlt : k ≤ 9
      · have hx1 : (1 : Int) ≤ (k : Int) := by omega
        have hx2 : (k : Int) ≤ 9 := by omega
        have hnx := upK_next es 0 k0
        have hb1 : -5000000000000 ≤ upK es 0 k ∧ upK es 0 k ≤ 5000000000000 := bal_bd _ HLD.out
        have hb2 : -5000000000000 ≤ bal (ofKind k) es 0 ∧ bal (ofKind k) es 0 ≤ 5000000000000 := bal_bd _ HLD.out
        have HK : Hid (∀ W, SlEnt W A1 es → Calls Try.prog 23 #[.slice A1 es.length c1, .int .i64 k, .int .i64 0] W fun e w' => e = .returned (.tuple #[.int .i64 (bal (ofKind k) es 0), .int .i64 0]) ∧ Below W.heap.size W w') := Lib.hid (fun W hW => by
          have := lkind_any es A1 c1 k 0 W hW (by omega)
          rw [kindR_ok HLD.out ⟨hx1, hx2⟩ d0] at this
          exact this)
        have HN := Lib.hid hnx
        clear hnx
        generalize bal (ofKind k) es 0 = z at *
        generalize upK es 0 k = s at *
        have hw1 : IntKind.i64.wrap (s + z) = s + z := IntWalk.i64_in _ (by omega)
        go_wp2_with fail
        refine (HK.out _ (S3.up hbw)).mono ?_
        rintro e w4 ⟨rfl, b4⟩
        go_wp2_with fail
        go_roundw
        case rel => exact ⟨k + 1, by omega, by omega, by go_num, rfl, by rw [HN.out], below_up hbw hbz b4⟩
        case measure => simp [intOf]; omega
      · obtain rfl : k = 10 := by omega
        have hz := upK_ten HLD.out 0
        have HZ := Lib.hid hz
        clear hz
        rw [HZ.out]
        go_wp2_with fail
        go_ret
        exact ⟨ret_bool (by simp), below_up B3 B3.size hbw⟩
  · subst hdd
    by_cases hz : dd = 0
    · subst hz
      go_enter Try.func7, Try.ntmps7
      go_wp2_with fail
      refine name_calls (fun w0 hw0 => ?_)
      have b0 : Below w.heap.size w w0 := by rw [hw0]; exact (by repeat' (first | (with_reducible exact Below.refl _ _) | (with_reducible assumption) | (with_reducible refine below_drewN ?_ _) | (with_reducible refine Below.drew ?_) | (with_reducible refine below_regrown_up _ _ ?_ ?_) | (with_reducible refine Below.alloc ?_ ?_ _) | (with_reducible refine Below.setCell ?_ ?_ _) | (with_reducible refine below_up ?_ ?_ (by assumption)) | (with_reducible exact Nat.le_refl _) | omega | (simp; done) | (simp; omega)))
      have l0 : w.heap.size + 1 < w0.heap.size := by rw [hw0]; simp
      have HX : Hid (∀ W, Below w0.heap.size w0 W → ((W.cell? ⟨w.heap.size, 0, none⟩ = some (.int .i64 V.p) ∧ W.cell? ⟨w.heap.size, 1, none⟩ = some (.int .i64 V.d)) ∧ (W.cell? ⟨w.heap.size + 1, 0, none⟩ = some (.int .i64 V.k.fx) ∧ W.cell? ⟨w.heap.size + 1, 1, none⟩ = some (.int .i64 V.k.n) ∧ W.cell? ⟨w.heap.size + 1, 2, none⟩ = some (.int .i64 V.k.d) ∧ W.cell? ⟨w.heap.size + 1, 3, none⟩ = some (.int .i64 V.k.most)) ∧ w.heap.size < W.heap.size ∧ w.heap.size + 1 < W.heap.size)) := Lib.hid (fun W hb => by
        have e : ∀ b o, b < w0.heap.size → W.cell? ⟨b, o, none⟩ = w0.cell? ⟨b, o, none⟩ := fun b o h => hb.cell (p := ⟨b, o, none⟩) h
        have hz := hb.size
        refine ⟨⟨?_, ?_⟩, ⟨?_, ?_, ?_, ?_⟩, by omega, by omega⟩
        all_goals
          rw [e _ _ (by omega), hw0]
          go_simp)
      clear hw0
      refine (head32_any _).mono ?_
      rintro e w1 ⟨rfl, b1⟩
      have B1 : Below w.heap.size w w1 := below_up b0 b0.size b1
      go_wp2_with fail
      refine (few32_any _ _ _ _ _ _ _ _ _ _).mono ?_
      rintro e w1' ⟨rfl, rfl⟩
      rw [hfew]
      obtain ⟨⟨y0, y1⟩, ⟨x0, x1, x2, x3⟩, ly, lx⟩ := HX.out w1 b1
      go_wp2_with fail
      refine (frun_lit (V := V) HR.out A At Al c ct cl w1 (hs.up B1) (hts.up B1) (hsl.up B1) (by omega) (by omega) (by omega) HST.out).mono ?_
      rintro e w2 ⟨⟨A1, c1, A2, c2, rfl, s1, s2⟩, b2⟩
      have B2 := below_up B1 B1.size b2
      have b02 := below_up b1 b1.size b2
      clear x0 x1 x2 x3 y0 y1 ly lx
      go_wp2_with fail
      refine (lvalid_any es A1 c1 _ s1 (by omega)).mono ?_
      rintro e w3 ⟨rfl, b3⟩
      rw [HLD.out]
      have B3 := below_up B2 B2.size b3
      have S3 := s1.up b3
      go_wp2_with fail
      go_loopw [13, 17, 18] (fun up sv kv wr => ∃ k : Nat, 1 ≤ k ∧ k ≤ 10 ∧ kv = .int .i64 k ∧ up = .bool true ∧ sv = .int .i64 (upK es 0 k) ∧ Below w3.heap.size w3 wr) (fun _ _ kv _ => 10 - (intOf kv).toNat)
      case atStart => exact ⟨1, by omega, by omega, rfl, rfl, by rw [upK_one], Below.refl _ _⟩
      case round =>
        obtain ⟨k, k0, k1, rfl, rfl, rfl, hbw⟩ := hrel
        have hbz := hbw.size
        by_cases hlt : k ≤ 9
        · have hx1 : (1 : Int) ≤ (k : Int) := by omega
          have hx2 : (k : Int) ≤ 9 := by omega
          have hnx := upK_next es 0 k0
          have hb1 : -5000000000000 ≤ upK es 0 k ∧ upK es 0 k ≤ 5000000000000 := bal_bd _ HLD.out
          have hb2 : -5000000000000 ≤ bal (ofKind k) es 0 ∧ bal (ofKind k) es 0 ≤ 5000000000000 := bal_bd _ HLD.out
          have HK : Hid (∀ W, SlEnt W A1 es → Calls Try.prog 23 #[.slice A1 es.length c1, .int .i64 k, .int .i64 0] W fun e w' => e = .returned (.tuple #[.int .i64 (bal (ofKind k) es 0), .int .i64 0]) ∧ Below W.heap.size W w') := Lib.hid (fun W hW => by
            have := lkind_any es A1 c1 k 0 W hW (by omega)
            rw [kindR_ok HLD.out ⟨hx1, hx2⟩ d0] at this
            exact this)
          have HN := Lib.hid hnx
          clear hnx
          generalize bal (ofKind k) es 0 = z at *
          generalize upK es 0 k = s at *
          have hw1 : IntKind.i64.wrap (s + z) = s + z := IntWalk.i64_in _ (by omega)
          go_wp2_with fail
          refine (HK.out _ (S3.up hbw)).mono ?_
          rintro e w4 ⟨rfl, b4⟩
          go_wp2_with fail
          go_roundw
          case rel => exact ⟨k + 1, by omega, by omega, by go_num, rfl, by rw [HN.out], below_up hbw hbz b4⟩
          case measure => simp [intOf]; omega
        · obtain rfl : k = 10 := by omega
          have hz := upK_ten HLD.out 0
          have HZ := Lib.hid hz
          clear hz
          rw [HZ.out]
          go_wp2_with fail
          go_ret
          exact ⟨ret_bool (by simp), below_up B3 B3.size hbw⟩
    · have hz' : 0 < dd := by omega
      clear hz h1
      go_enter Try.func7, Try.ntmps7
      go_wp2_with fail
      refine name_calls (fun w0 hw0 => ?_)
      have b0 : Below w.heap.size w w0 := by rw [hw0]; exact (by repeat' (first | (with_reducible exact Below.refl _ _) | (with_reducible assumption) | (with_reducible refine below_drewN ?_ _) | (with_reducible refine Below.drew ?_) | (with_reducible refine below_regrown_up _ _ ?_ ?_) | (with_reducible refine Below.alloc ?_ ?_ _) | (with_reducible refine Below.setCell ?_ ?_ _) | (with_reducible refine below_up ?_ ?_ (by assumption)) | (with_reducible exact Nat.le_refl _) | omega | (simp; done) | (simp; omega)))
      have l0 : w.heap.size + 1 < w0.heap.size := by rw [hw0]; simp
      have HX : Hid (∀ W, Below w0.heap.size w0 W → ((W.cell? ⟨w.heap.size, 0, none⟩ = some (.int .i64 V.p) ∧ W.cell? ⟨w.heap.size, 1, none⟩ = some (.int .i64 V.d)) ∧ (W.cell? ⟨w.heap.size + 1, 0, none⟩ = some (.int .i64 V.k.fx) ∧ W.cell? ⟨w.heap.size + 1, 1, none⟩ = some (.int .i64 V.k.n) ∧ W.cell? ⟨w.heap.size + 1, 2, none⟩ = some (.int .i64 V.k.d) ∧ W.cell? ⟨w.heap.size + 1, 3, none⟩ = some (.int .i64 V.k.most)) ∧ w.heap.size < W.heap.size ∧ w.heap.size + 1 < W.heap.size)) := Lib.hid (fun W hb => by
        have e : ∀ b o, b < w0.heap.size → W.cell? ⟨b, o, none⟩ = w0.cell? ⟨b, o, none⟩ := fun b o h => hb.cell (p := ⟨b, o, none⟩) h
        have hz := hb.size
        refine ⟨⟨?_, ?_⟩, ⟨?_, ?_, ?_, ?_⟩, by omega, by omega⟩
        all_goals
          rw [e _ _ (by omega), hw0]
          go_simp)
      clear hw0
      refine (head32_any _).mono ?_
      rintro e w1 ⟨rfl, b1⟩
      have B1 : Below w.heap.size w w1 := below_up b0 b0.size b1
      go_wp2_with fail
      refine (few32_any _ _ _ _ _ _ _ _ _ _).mono ?_
      rintro e w1' ⟨rfl, rfl⟩
      rw [hfew]
      obtain ⟨⟨y0, y1⟩, ⟨x0, x1, x2, x3⟩, ly, lx⟩ := HX.out w1 b1
      go_wp2_with fail
      refine (frun_lit (V := V) HR.out A At Al c ct cl w1 (hs.up B1) (hts.up B1) (hsl.up B1) (by omega) (by omega) (by omega) HST.out).mono ?_
      rintro e w2 ⟨⟨A1, c1, A2, c2, rfl, s1, s2⟩, b2⟩
      have B2 := below_up B1 B1.size b2
      have b02 := below_up b1 b1.size b2
      clear x0 x1 x2 x3 y0 y1 ly lx
      go_wp2_with fail
      refine (lvalid_any es A1 c1 _ s1 (by omega)).mono ?_
      rintro e w3 ⟨rfl, b3⟩
      rw [HLD.out]
      have B3 := below_up B2 B2.size b3
      have S3 := s1.up b3
      go_wp2_with fail
      go_loopw [13, 17, 18] (fun up sv kv wr => ∃ k : Nat, 1 ≤ k ∧ k ≤ 10 ∧ kv = .int .i64 k ∧ up = .bool true ∧ sv = .int .i64 (upK es dd k) ∧ Below w3.heap.size w3 wr) (fun _ _ kv _ => 10 - (intOf kv).toNat)
      case atStart => exact ⟨1, by omega, by omega, rfl, rfl, by rw [upK_one], Below.refl _ _⟩
      case round =>
        obtain ⟨k, k0, k1, rfl, rfl, rfl, hbw⟩ := hrel
        have hbz := hbw.size
        by_cases hlt : k ≤ 9
        · have hx1 : (1 : Int) ≤ (k : Int) := by omega
          have hx2 : (k : Int) ≤ 9 := by omega
          have hnx := upK_next es dd k0
          have hb1 : -5000000000000 ≤ upK es dd k ∧ upK es dd k ≤ 5000000000000 := bal_bd _ HLD.out
          have hb2 : -5000000000000 ≤ bal (ofKind k) es dd ∧ bal (ofKind k) es dd ≤ 5000000000000 := bal_bd _ HLD.out
          have HK : Hid (∀ W, SlEnt W A1 es → Calls Try.prog 23 #[.slice A1 es.length c1, .int .i64 k, .int .i64 dd] W fun e w' => e = .returned (.tuple #[.int .i64 (bal (ofKind k) es dd), .int .i64 0]) ∧ Below W.heap.size W w') := Lib.hid (fun W hW => by
            have := lkind_any es A1 c1 k dd W hW (by omega)
            rw [kindR_ok HLD.out ⟨hx1, hx2⟩ d0] at this
            exact this)
          have HN := Lib.hid hnx
          clear hnx
          generalize bal (ofKind k) es dd = z at *
          generalize upK es dd k = s at *
          have hw1 : IntKind.i64.wrap (s + z) = s + z := IntWalk.i64_in _ (by omega)
          go_wp2_with fail
          refine (HK.out _ (S3.up hbw)).mono ?_
          rintro e w4 ⟨rfl, b4⟩
          go_wp2_with fail
          go_roundw
          case rel => exact ⟨k + 1, by omega, by omega, by go_num, rfl, by rw [HN.out], below_up hbw hbz b4⟩
          case measure => simp [intOf]; omega
        · obtain rfl : k = 10 := by omega
          have hz := upK_ten HLD.out dd
          have HZ := Lib.hid hz
          clear hz
          rw [HZ.out]
          go_wp2_with fail
          go_ret
          exact ⟨ret_bool (by simp), below_up B3 B3.size hbw⟩
  · go_enter Try.func7, Try.ntmps7
    go_wp2_with fail
    refine name_calls (fun w0 hw0 => ?_)
    have b0 : Below w.heap.size w w0 := by rw [hw0]; exact (by repeat' (first | (with_reducible exact Below.refl _ _) | (with_reducible assumption) | (with_reducible refine below_drewN ?_ _) | (with_reducible refine Below.drew ?_) | (with_reducible refine below_regrown_up _ _ ?_ ?_) | (with_reducible refine Below.alloc ?_ ?_ _) | (with_reducible refine Below.setCell ?_ ?_ _) | (with_reducible refine below_up ?_ ?_ (by assumption)) | (with_reducible exact Nat.le_refl _) | omega | (simp; done) | (simp; omega)))
    have l0 : w.heap.size + 1 < w0.heap.size := by rw [hw0]; simp
    have HX : Hid (∀ W, Below w0.heap.size w0 W → ((W.cell? ⟨w.heap.size, 0, none⟩ = some (.int .i64 V.p) ∧ W.cell? ⟨w.heap.size, 1, none⟩ = some (.int .i64 V.d)) ∧ (W.cell? ⟨w.heap.size + 1, 0, none⟩ = some (.int .i64 V.k.fx) ∧ W.cell? ⟨w.heap.size + 1, 1, none⟩ = some (.int .i64 V.k.n) ∧ W.cell? ⟨w.heap.size + 1, 2, none⟩ = some (.int .i64 V.k.d) ∧ W.cell? ⟨w.heap.size + 1, 3, none⟩ = some (.int .i64 V.k.most)) ∧ w.heap.size < W.heap.size ∧ w.heap.size + 1 < W.heap.size)) := Lib.hid (fun W hb => by
      have e : ∀ b o, b < w0.heap.size → W.cell? ⟨b, o, none⟩ = w0.cell? ⟨b, o, none⟩ := fun b o h => hb.cell (p := ⟨b, o, none⟩) h
      have hz := hb.size
      refine ⟨⟨?_, ?_⟩, ⟨?_, ?_, ?_, ?_⟩, by omega, by omega⟩
      all_goals
        rw [e _ _ (by omega), hw0]
        go_simp)
    clear hw0
    refine (head32_any _).mono ?_
    rintro e w1 ⟨rfl, b1⟩
    have B1 : Below w.heap.size w w1 := below_up b0 b0.size b1
    go_wp2_with fail
    refine (few32_any _ _ _ _ _ _ _ _ _ _).mono ?_
    rintro e w1' ⟨rfl, rfl⟩
    rw [hfew]
    obtain ⟨⟨y0, y1⟩, ⟨x0, x1, x2, x3⟩, ly, lx⟩ := HX.out w1 b1
    go_wp2_with fail
    refine (frun_lit (V := V) HR.out A At Al c ct cl w1 (hs.up B1) (hts.up B1) (hsl.up B1) (by omega) (by omega) (by omega) HST.out).mono ?_
    rintro e w2 ⟨⟨A1, c1, A2, c2, rfl, s1, s2⟩, b2⟩
    have B2 := below_up B1 B1.size b2
    have b02 := below_up b1 b1.size b2
    clear x0 x1 x2 x3 y0 y1 ly lx
    go_wp2_with fail
    refine (lvalid_any es A1 c1 _ s1 (by omega)).mono ?_
    rintro e w3 ⟨rfl, b3⟩
    rw [HLD.out]
    have B3 := below_up B2 B2.size b3
    have S3 := s1.up b3
    go_wp2_with fail
    go_loopw [13, 17, 18] (fun up sv kv wr => ∃ k : Nat, 1 ≤ k ∧ k ≤ 10 ∧ kv = .int .i64 k ∧ up = .bool true ∧ sv = .int .i64 (upK es 366 k) ∧ Below w3.heap.size w3 wr) (fun _ _ kv _ => 10 - (intOf kv).toNat)
    case atStart => exact ⟨1, by omega, by omega, rfl, rfl, by rw [upK_one], Below.refl _ _⟩
    case round =>
      obtain ⟨k, k0, k1, rfl, rfl, rfl, hbw⟩ := hrel
      have hbz := hbw.size
      by_cases hlt : k ≤ 9
      · have hx1 : (1 : Int) ≤ (k : Int) := by omega
        have hx2 : (k : Int) ≤ 9 := by omega
        have hnx := upK_next es 366 k0
        have hb1 : -5000000000000 ≤ upK es 366 k ∧ upK es 366 k ≤ 5000000000000 := bal_bd _ HLD.out
        have hb2 : -5000000000000 ≤ bal (ofKind k) es 366 ∧ bal (ofKind k) es 366 ≤ 5000000000000 := bal_bd _ HLD.out
        have HK : Hid (∀ W, SlEnt W A1 es → Calls Try.prog 23 #[.slice A1 es.length c1, .int .i64 k, .int .i64 366] W fun e w' => e = .returned (.tuple #[.int .i64 (bal (ofKind k) es 366), .int .i64 0]) ∧ Below W.heap.size W w') := Lib.hid (fun W hW => by
          have := lkind_any es A1 c1 k 366 W hW (by omega)
          rw [kindR_ok HLD.out ⟨hx1, hx2⟩ d0] at this
          exact this)
        have HN := Lib.hid hnx
        clear hnx
        generalize bal (ofKind k) es 366 = z at *
        generalize upK es 366 k = s at *
        have hw1 : IntKind.i64.wrap (s + z) = s + z := IntWalk.i64_in _ (by omega)
        go_wp2_with fail
        refine (HK.out _ (S3.up hbw)).mono ?_
        rintro e w4 ⟨rfl, b4⟩
        go_wp2_with fail
        go_roundw
        case rel => exact ⟨k + 1, by omega, by omega, by go_num, rfl, by rw [HN.out], below_up hbw hbz b4⟩
        case measure => simp [intOf]; omega
      · obtain rfl : k = 10 := by omega
        have hz := upK_ten HLD.out 366
        have HZ := Lib.hid hz
        clear hz
        rw [HZ.out]
        go_wp2_with fail
        go_ret
        exact ⟨ret_bool (by simp), below_up B3 B3.size hbw⟩
theorem law_ledgers (V : Env) (bills : List Bill) (l : List Deed) (day : Int) (A At Al : Option Addr) (c ct cl : Nat) (w : World) (hs : SlBill w A bills) (hts : SlTax w At V.ts) (hsl : SlDeed w Al l) (hst : ∀ x ∈ l, -9223372036854775808 ≤ x.stay ∧ x.stay ≤ 9223372036854775807) :
    Calls Try.prog 7 #[.slice A bills.length c, .slice At V.ts.length ct, .agg #[.int .i64 V.p, .int .i64 V.d], V.k.v, .slice Al l.length cl, .int .i64 day] w fun e w' => e = .returned (.bool true) ∧ Below w.heap.size w w' := by
  cases hfew : fewB bills.length V.ts.length l.length
  · go_enter Try.func7, Try.ntmps7
    go_wp2_with fail
    refine name_calls (fun w0 hw0 => ?_)
    have b0 : Below w.heap.size w w0 := by rw [hw0]; exact (by repeat' (first | (with_reducible exact Below.refl _ _) | (with_reducible assumption) | (with_reducible refine below_drewN ?_ _) | (with_reducible refine Below.drew ?_) | (with_reducible refine below_regrown_up _ _ ?_ ?_) | (with_reducible refine Below.alloc ?_ ?_ _) | (with_reducible refine Below.setCell ?_ ?_ _) | (with_reducible refine below_up ?_ ?_ (by assumption)) | (with_reducible exact Nat.le_refl _) | omega | (simp; done) | (simp; omega)))
    have l0 : w.heap.size + 1 < w0.heap.size := by rw [hw0]; simp
    have HX : Hid (∀ W, Below w0.heap.size w0 W → ((W.cell? ⟨w.heap.size, 0, none⟩ = some (.int .i64 V.p) ∧ W.cell? ⟨w.heap.size, 1, none⟩ = some (.int .i64 V.d)) ∧ (W.cell? ⟨w.heap.size + 1, 0, none⟩ = some (.int .i64 V.k.fx) ∧ W.cell? ⟨w.heap.size + 1, 1, none⟩ = some (.int .i64 V.k.n) ∧ W.cell? ⟨w.heap.size + 1, 2, none⟩ = some (.int .i64 V.k.d) ∧ W.cell? ⟨w.heap.size + 1, 3, none⟩ = some (.int .i64 V.k.most)) ∧ w.heap.size < W.heap.size ∧ w.heap.size + 1 < W.heap.size)) := Lib.hid (fun W hb => by
      have e : ∀ b o, b < w0.heap.size → W.cell? ⟨b, o, none⟩ = w0.cell? ⟨b, o, none⟩ := fun b o h => hb.cell (p := ⟨b, o, none⟩) h
      have hz := hb.size
      refine ⟨⟨?_, ?_⟩, ⟨?_, ?_, ?_, ?_⟩, by omega, by omega⟩
      all_goals
        rw [e _ _ (by omega), hw0]
        go_simp)
    clear hw0
    refine (head32_any _).mono ?_
    rintro e w1 ⟨rfl, b1⟩
    have B1 : Below w.heap.size w w1 := below_up b0 b0.size b1
    go_wp2_with fail
    refine (few32_any _ _ _ _ _ _ _ _ _ _).mono ?_
    rintro e w1' ⟨rfl, rfl⟩
    rw [hfew]
    go_wp2_with fail
    go_ret
    exact ⟨ret_bool (by simp), B1⟩
  cases hok : runOk V bills
  · obtain ⟨f1, f2, f3⟩ := fewB_iff.1 hfew
    have HST := Lib.hid hst
    clear hst
    have hr : runR V bills l = ([], [], 1) := by unfold runR; rw [if_neg (by omega), hok]; rfl
    have HR := Lib.hid hr
    clear hr
    go_enter Try.func7, Try.ntmps7
    go_wp2_with fail
    refine name_calls (fun w0 hw0 => ?_)
    have b0 : Below w.heap.size w w0 := by rw [hw0]; exact (by repeat' (first | (with_reducible exact Below.refl _ _) | (with_reducible assumption) | (with_reducible refine below_drewN ?_ _) | (with_reducible refine Below.drew ?_) | (with_reducible refine below_regrown_up _ _ ?_ ?_) | (with_reducible refine Below.alloc ?_ ?_ _) | (with_reducible refine Below.setCell ?_ ?_ _) | (with_reducible refine below_up ?_ ?_ (by assumption)) | (with_reducible exact Nat.le_refl _) | omega | (simp; done) | (simp; omega)))
    have l0 : w.heap.size + 1 < w0.heap.size := by rw [hw0]; simp
    have HX : Hid (∀ W, Below w0.heap.size w0 W → ((W.cell? ⟨w.heap.size, 0, none⟩ = some (.int .i64 V.p) ∧ W.cell? ⟨w.heap.size, 1, none⟩ = some (.int .i64 V.d)) ∧ (W.cell? ⟨w.heap.size + 1, 0, none⟩ = some (.int .i64 V.k.fx) ∧ W.cell? ⟨w.heap.size + 1, 1, none⟩ = some (.int .i64 V.k.n) ∧ W.cell? ⟨w.heap.size + 1, 2, none⟩ = some (.int .i64 V.k.d) ∧ W.cell? ⟨w.heap.size + 1, 3, none⟩ = some (.int .i64 V.k.most)) ∧ w.heap.size < W.heap.size ∧ w.heap.size + 1 < W.heap.size)) := Lib.hid (fun W hb => by
      have e : ∀ b o, b < w0.heap.size → W.cell? ⟨b, o, none⟩ = w0.cell? ⟨b, o, none⟩ := fun b o h => hb.cell (p := ⟨b, o, none⟩) h
      have hz := hb.size
      refine ⟨⟨?_, ?_⟩, ⟨?_, ?_, ?_, ?_⟩, by omega, by omega⟩
      all_goals
        rw [e _ _ (by omega), hw0]
        go_simp)
    clear hw0
    refine (head32_any _).mono ?_
    rintro e w1 ⟨rfl, b1⟩
    have B1 : Below w.heap.size w w1 := below_up b0 b0.size b1
    go_wp2_with fail
    refine (few32_any _ _ _ _ _ _ _ _ _ _).mono ?_
    rintro e w1' ⟨rfl, rfl⟩
    rw [hfew]
    obtain ⟨⟨y0, y1⟩, ⟨x0, x1, x2, x3⟩, ly, lx⟩ := HX.out w1 b1
    go_wp2_with fail
    refine (frun_lit (V := V) HR.out A At Al c ct cl w1 (hs.up B1) (hts.up B1) (hsl.up B1) (by omega) (by omega) (by omega) HST.out).mono ?_
    rintro e w2 ⟨⟨A1, c1, A2, c2, rfl, s1, s2⟩, b2⟩
    have B2 := below_up B1 B1.size b2
    have b02 := below_up b1 b1.size b2
    clear x0 x1 x2 x3 y0 y1 ly lx
    go_wp2_with fail
    go_ret
    exact ⟨ret_bool (by simp), B2⟩
  by_cases h1 : day < 0
  · exact ledgers_yes V bills l day 0 A At Al c ct cl w hs hts hsl hst hfew hok (.inl ⟨h1, rfl⟩)
  · by_cases h2 : day ≤ 366
    · exact ledgers_yes V bills l day day A At Al c ct cl w hs hts hsl hst hfew hok (.inr (.inl ⟨by omega, h2, rfl⟩))
    · exact ledgers_yes V bills l day 366 A At Al c ct cl w hs hts hsl hst hfew hok (.inr (.inr ⟨by omega, rfl⟩))
end Go.Proofs.Ytmlhoojcdidgkaa
