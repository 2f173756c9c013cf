/-
  The law 'FolioOwed': the walk.
-/
import Derived.Test.YtmlhoojcdidgkaaFoLeft
namespace Go.Proofs.Ytmlhoojcdidgkaa
set_option linter.unusedSimpArgs false
set_option linter.unusedVariables false
open Go.RowKit
open Go.Sort (grow size_grow)


set_option maxHeartbeats 4000000
set_option maxRecDepth 100000
theorem due_moved {l : List Entry} (h : ledOk l = true) {s : Int} (s0 : 1 ≤ s) (s1 : s ≤ 1000000) : dueR l s 366 = (movedR l (guestA s) s, 0) := by
  unfold dueR
  rw [h, inB_t s0 s1, if_pos (by rfl)]
  have h2 := (ledOk_iff.1 h).2.1
  rw [← sumE_ref h2]
  congr 1
  refine sumE_congr fun e he => ?_
  have := (Entry.ok_iff.1 (h2 e he)).1
  unfold ofE
  rw [decide_eq_true this.2, Bool.and_true]
def paidM (es : List Entry) (s : Int) : Int := movedR es 900 s + movedR es 600 s + movedR es 800 s
/-- What the law says of one bill. -/
inductive OwedR (V : Env) (l : List Deed) (errs : List Int) (es : List Entry) (b : Bill) : Prop
  | chan (c : 0 < b.channel) (g : movedR es (guestA b.stay) b.stay = 0) : OwedR V l errs es b
  | canc (c : b.channel = 0) (d3 : didR l errs 3 b.stay = true) (g : movedR es (guestA b.stay) b.stay = 0) : OwedR V l errs es b
  | walk (c : b.channel = 0) (d3 : didR l errs 3 b.stay = false) (d6 : didR l errs 6 b.stay = true) (g : movedR es (guestA b.stay) b.stay = 0) : OwedR V l errs es b
  | left (n : Int) (r : List Int) (c : b.channel = 0) (d3 : didR l errs 3 b.stay = false) (d6 : didR l errs 6 b.stay = false) (d5 : didR l errs 5 b.stay = true) (h1 : allT V.ts b = (r, n, 0)) (g : movedR es (guestA b.stay) b.stay = b.price + n - paidM es b.stay) (hn : 0 ≤ n ∧ n ≤ 1000000000) : OwedR V l errs es b
  | none_ (c : b.channel = 0) (d3 : didR l errs 3 b.stay = false) (d6 : didR l errs 6 b.stay = false) (d5 : didR l errs 5 b.stay = false) (g : movedR es (guestA b.stay) b.stay = -paidM es b.stay) : OwedR V l errs es b
theorem owed_of {V : Env} {bills : List Bill} {l : List Deed} (hV : EnvOk V) (hb : billsOk bills = true) {m : Nat} (hm : m < bills.length) : OwedR V l (runAll V bills l).2 (runAll V bills l).1.es bills[m] := by
  have hR := run_all hV hb l
  obtain ⟨a, ha, hab⟩ := hR.at_ hm
  have hA := hR.acct a ha
  have hD := hR.did a ha
  have hO := hR.ok.ac a ha
  have hbo := hO.b
  have hch := (Bill.ok_iff.1 hbo).2.2.2.2.1
  obtain ⟨dl, dc, dw⟩ := hD
  obtain ⟨pos, pre, left, canc, walk⟩ := hA
  rw [← hab]
  have hst := hO.st
  by_cases hc : a.b.channel = 0
  · have hd : a.b.direct = true := direct_iff.2 hc
    by_cases h4 : a.st = 4
    · exact .canc hc (by rw [dc, decide_eq_true h4]) (canc h4).1
    · have e3 : didR l (runAll V bills l).2 3 a.b.stay = false := by rw [dc, decide_eq_false h4]
      by_cases h5 : a.st = 5
      · exact .walk hc e3 (by rw [dw, decide_eq_true h5]) (walk h5).1
      · have e6 : didR l (runAll V bills l).2 6 a.b.stay = false := by rw [dw, decide_eq_false h5]
        by_cases h3 : a.st = 3
        · obtain ⟨n, c, l1, _, _, _, l5, _⟩ := left h3
          obtain ⟨r, hr⟩ := comes_all l1
          have hbd := comes_bd hbo l1
          obtain ⟨m1, m2, m3⟩ := l5 hd
          exact .left n r hc e3 e6 (by rw [dl, decide_eq_true h3]) hr (by unfold paidM; omega) (by omega)
        · obtain ⟨_, _, p3, p4, p5, _, _, _⟩ := pre (by omega)
          exact .none_ hc e3 e6 (by rw [dl, decide_eq_false h3]) (by unfold paidM; omega)
  · have hd : a.b.direct = false := by
      cases h : a.b.direct
      · rfl
      · exact absurd (direct_iff.1 h) hc
    refine .chan (by omega) ?_
    by_cases h3 : a.st = 3
    · obtain ⟨n, c, _, _, _, _, _, l6⟩ := left h3
      exact l6 hd
    · by_cases h4 : a.st = 4
      · exact (canc h4).1
      · by_cases h5 : a.st = 5
        · exact (walk h5).1
        · obtain ⟨p1, _, p3, _⟩ := pre (by omega)
          have := p1 hd
          omega
theorem law_owed (V : Env) (bills : List Bill) (l : List Deed) (A At Al : Option Addr) (c ct cl : Nat) (w : World) (hs : SlBill w A bills) (hts : SlTax w At V.ts) (hsl : SlDeed w Al l) (hst : ∀ x ∈ l, -9223372036854775808 ≤ x.stay ∧ x.stay ≤ 9223372036854775807) :
    Calls Try.prog 6 #[.slice A bills.length c, .slice At V.ts.length ct, .agg #[.int .i64 V.p, .int .i64 V.d], V.k.v, .slice Al l.length cl] w fun e w' => e = .returned (.bool true) ∧ Below w.heap.size w w' := by
  cases hfew : fewB bills.length V.ts.length l.length
  · go_enter Try.func6, Try.ntmps6
    go_wp2_with fail
    refine name_calls (fun w0 hw0 => ?_)
    have b0 : Below w.heap.size w w0 := by rw [hw0]; exact (by repeat' (first | (with_reducible exact Below.refl _ _) | (with_reducible assumption) | (with_reducible refine below_drewN ?_ _) | (with_reducible refine Below.drew ?_) | (with_reducible refine below_regrown_up _ _ ?_ ?_) | (with_reducible refine Below.alloc ?_ ?_ _) | (with_reducible refine Below.setCell ?_ ?_ _) | (with_reducible refine below_up ?_ ?_ (by assumption)) | (with_reducible exact Nat.le_refl _) | omega | (simp; done) | (simp; omega)))
    have l0 : w.heap.size + 1 < w0.heap.size := by rw [hw0]; simp
    have HX : Hid (∀ W, Below w0.heap.size w0 W → ((W.cell? ⟨w.heap.size, 0, none⟩ = some (.int .i64 V.p) ∧ W.cell? ⟨w.heap.size, 1, none⟩ = some (.int .i64 V.d)) ∧ (W.cell? ⟨w.heap.size + 1, 0, none⟩ = some (.int .i64 V.k.fx) ∧ W.cell? ⟨w.heap.size + 1, 1, none⟩ = some (.int .i64 V.k.n) ∧ W.cell? ⟨w.heap.size + 1, 2, none⟩ = some (.int .i64 V.k.d) ∧ W.cell? ⟨w.heap.size + 1, 3, none⟩ = some (.int .i64 V.k.most)) ∧ w.heap.size < W.heap.size ∧ w.heap.size + 1 < W.heap.size)) := Lib.hid (fun W hb => by
      have e : ∀ b o, b < w0.heap.size → W.cell? ⟨b, o, none⟩ = w0.cell? ⟨b, o, none⟩ := fun b o h => hb.cell (p := ⟨b, o, none⟩) h
      have hz := hb.size
      refine ⟨⟨?_, ?_⟩, ⟨?_, ?_, ?_, ?_⟩, by omega, by omega⟩
      all_goals
        rw [e _ _ (by omega), hw0]
        go_simp)
    clear hw0
    refine (head32_any _).mono ?_
    rintro e w1 ⟨rfl, b1⟩
    have B1 : Below w.heap.size w w1 := below_up b0 b0.size b1
    go_wp2_with fail
    refine (few32_any _ _ _ _ _ _ _ _ _ _).mono ?_
    rintro e w1' ⟨rfl, rfl⟩
    rw [hfew]
    go_wp2_with fail
    go_ret
    exact ⟨ret_bool (by simp), B1⟩
  obtain ⟨f1, f2, f3⟩ := fewB_iff.1 hfew
  have HST := Lib.hid hst
  clear hst
  cases hok : runOk V bills
  · have hr : runR V bills l = ([], [], 1) := by unfold runR; rw [if_neg (by omega), hok]; rfl
    have HR := Lib.hid hr
    clear hr
    go_enter Try.func6, Try.ntmps6
    go_wp2_with fail
    refine name_calls (fun w0 hw0 => ?_)
    have b0 : Below w.heap.size w w0 := by rw [hw0]; exact (by repeat' (first | (with_reducible exact Below.refl _ _) | (with_reducible assumption) | (with_reducible refine below_drewN ?_ _) | (with_reducible refine Below.drew ?_) | (with_reducible refine below_regrown_up _ _ ?_ ?_) | (with_reducible refine Below.alloc ?_ ?_ _) | (with_reducible refine Below.setCell ?_ ?_ _) | (with_reducible refine below_up ?_ ?_ (by assumption)) | (with_reducible exact Nat.le_refl _) | omega | (simp; done) | (simp; omega)))
    have l0 : w.heap.size + 1 < w0.heap.size := by rw [hw0]; simp
    have HX : Hid (∀ W, Below w0.heap.size w0 W → ((W.cell? ⟨w.heap.size, 0, none⟩ = some (.int .i64 V.p) ∧ W.cell? ⟨w.heap.size, 1, none⟩ = some (.int .i64 V.d)) ∧ (W.cell? ⟨w.heap.size + 1, 0, none⟩ = some (.int .i64 V.k.fx) ∧ W.cell? ⟨w.heap.size + 1, 1, none⟩ = some (.int .i64 V.k.n) ∧ W.cell? ⟨w.heap.size + 1, 2, none⟩ = some (.int .i64 V.k.d) ∧ W.cell? ⟨w.heap.size + 1, 3, none⟩ = some (.int .i64 V.k.most)) ∧ w.heap.size < W.heap.size ∧ w.heap.size + 1 < W.heap.size)) := Lib.hid (fun W hb => by
      have e : ∀ b o, b < w0.heap.size → W.cell? ⟨b, o, none⟩ = w0.cell? ⟨b, o, none⟩ := fun b o h => hb.cell (p := ⟨b, o, none⟩) h
      have hz := hb.size
      refine ⟨⟨?_, ?_⟩, ⟨?_, ?_, ?_, ?_⟩, by omega, by omega⟩
      all_goals
        rw [e _ _ (by omega), hw0]
        go_simp)
    clear hw0
    refine (head32_any _).mono ?_
    rintro e w1 ⟨rfl, b1⟩
    have B1 : Below w.heap.size w w1 := below_up b0 b0.size b1
    go_wp2_with fail
    refine (few32_any _ _ _ _ _ _ _ _ _ _).mono ?_
    rintro e w1' ⟨rfl, rfl⟩
    rw [hfew]
    obtain ⟨⟨y0, y1⟩, ⟨x0, x1, x2, x3⟩, ly, lx⟩ := HX.out w1 b1
    go_wp2_with fail
    refine (frun_lit (V := V) HR.out A At Al c ct cl w1 (hs.up B1) (hts.up B1) (hsl.up B1) (by omega) (by omega) (by omega) HST.out).mono ?_
    rintro e w2 ⟨⟨A1, c1, A2, c2, rfl, s1, s2⟩, b2⟩
    have B2 := below_up B1 B1.size b2
    have b02 := below_up b1 b1.size b2
    clear x0 x1 x2 x3 y0 y1 ly lx
    go_wp2_with fail
    go_ret
    exact ⟨ret_bool (by simp), B2⟩
  have hr : runR V bills l = ((runAll V bills l).1.es, (runAll V bills l).2, 0) := by unfold runR; rw [if_neg (by omega), hok]; rfl
  have hrl := run_len (V := V) (bills := bills) l
  have hled := run_led hok (l := l) (by omega)
  obtain ⟨hV, hbo, _, _⟩ := runOk_iff.1 hok
  have hel : (runAll V bills l).1.es.length ≤ 120 := by have := (run_ok hV hbo l).1.len; omega
  have HOWED := Lib.hid (fun m (hm : m < bills.length) => owed_of (l := l) hV hbo hm)
  have HBK := Lib.hid (billsOk_iff.1 hbo).1
  clear hV hbo hok
  generalize (runAll V bills l).1.es = es at *
  generalize (runAll V bills l).2 = errs at *
  have HR := Lib.hid hr
  have HOK := Lib.hid (ledOk_iff.1 hled).2.1
  have HLED := Lib.hid hled
  have HRL := Lib.hid hrl
  have hneq : ((errs.length : Int) != (l.length : Int)) = false := by rw [bne_eq_false_iff_eq]; omega
  have hneq2 : (errs.length != l.length) = false := by rw [bne_eq_false_iff_eq]; omega
  clear hr hrl hled
  go_enter Try.func6, Try.ntmps6
  go_wp2_with fail
  refine name_calls (fun w0 hw0 => ?_)
  have b0 : Below w.heap.size w w0 := by rw [hw0]; exact (by repeat' (first | (with_reducible exact Below.refl _ _) | (with_reducible assumption) | (with_reducible refine below_drewN ?_ _) | (with_reducible refine Below.drew ?_) | (with_reducible refine below_regrown_up _ _ ?_ ?_) | (with_reducible refine Below.alloc ?_ ?_ _) | (with_reducible refine Below.setCell ?_ ?_ _) | (with_reducible refine below_up ?_ ?_ (by assumption)) | (with_reducible exact Nat.le_refl _) | omega | (simp; done) | (simp; omega)))
  have l0 : w.heap.size + 1 < w0.heap.size := by rw [hw0]; simp
  have HX : Hid (∀ W, Below w0.heap.size w0 W → ((W.cell? ⟨w.heap.size, 0, none⟩ = some (.int .i64 V.p) ∧ W.cell? ⟨w.heap.size, 1, none⟩ = some (.int .i64 V.d)) ∧ (W.cell? ⟨w.heap.size + 1, 0, none⟩ = some (.int .i64 V.k.fx) ∧ W.cell? ⟨w.heap.size + 1, 1, none⟩ = some (.int .i64 V.k.n) ∧ W.cell? ⟨w.heap.size + 1, 2, none⟩ = some (.int .i64 V.k.d) ∧ W.cell? ⟨w.heap.size + 1, 3, none⟩ = some (.int .i64 V.k.most)) ∧ w.heap.size < W.heap.size ∧ w.heap.size + 1 < W.heap.size)) := Lib.hid (fun W hb => by
    have e : ∀ b o, b < w0.heap.size → W.cell? ⟨b, o, none⟩ = w0.cell? ⟨b, o, none⟩ := fun b o h => hb.cell (p := ⟨b, o, none⟩) h
    have hz := hb.size
    refine ⟨⟨?_, ?_⟩, ⟨?_, ?_, ?_, ?_⟩, by omega, by omega⟩
    all_goals
      rw [e _ _ (by omega), hw0]
      go_simp)
  clear hw0
  refine (head32_any _).mono ?_
  rintro e w1 ⟨rfl, b1⟩
  have B1 : Below w.heap.size w w1 := below_up b0 b0.size b1
  go_wp2_with fail
  refine (few32_any _ _ _ _ _ _ _ _ _ _).mono ?_
  rintro e w1' ⟨rfl, rfl⟩
  rw [hfew]
  obtain ⟨⟨y0, y1⟩, ⟨x0, x1, x2, x3⟩, ly, lx⟩ := HX.out w1 b1
  go_wp2_with fail
  refine (frun_lit (V := V) HR.out A At Al c ct cl w1 (hs.up B1) (hts.up B1) (hsl.up B1) (by omega) (by omega) (by omega) HST.out).mono ?_
  rintro e w2 ⟨⟨A1, c1, A2, c2, rfl, s1, s2⟩, b2⟩
  have B2 := below_up B1 B1.size b2
  have b02 := below_up b1 b1.size b2
  clear x0 x1 x2 x3 y0 y1 ly lx
  go_wp2_with fail
  go_loopw [11, 52] (fun up i wr => ∃ m : Nat, m ≤ bills.length ∧ i = .int .i64 m ∧ up = .bool true ∧ Below w2.heap.size w2 wr) (fun _ i _ => bills.length - (intOf i).toNat)
  case atStart => exact ⟨0, by omega, rfl, rfl, Below.refl _ _⟩
  case round =>
    obtain ⟨m, hm, rfl, rfl, hbw⟩ := hrel
    have hbz := hbw.size
    by_cases hlt : m < bills.length
    · have hx1 : (0 : Int) ≤ (m : Int) := by omega
      have hx2 : (m : Int) < (bills.length : Int) := by omega
      have hBw := below_up B2 B2.size hbw
      obtain ⟨bb, off, rfl, hbl, hcell⟩ := (hs.up hBw).at_ hlt
      have q0 := hcell 0 _ rfl
      have q1 := hcell 1 _ rfl
      have q2 := hcell 2 _ rfl
      have q3 := hcell 3 _ rfl
      have q4 := hcell 4 _ rfl
      have q5 := hcell 5 _ rfl
      have q6 := hcell 6 _ rfl
      have q7 := hcell 7 _ rfl
      have q8 := hcell 8 _ rfl
      rw [Nat.add_zero] at q0
      clear hcell
      have hbk := Bill.ok_iff.1 (HBK.out _ (List.getElem_mem hlt))
      have hsy := hbk.2.2.2.1
      have hpr := hbk.2.2.2.2.2.2.1
      clear hbk
      have HL := HOWED.out m hlt
      have hm9 := movedR_bd (acc := 900) (ref := bills[m].stay) (es := es) HOK.out
      have hm6 := movedR_bd (acc := 600) (ref := bills[m].stay) (es := es) HOK.out
      have hm8 := movedR_bd (acc := 800) (ref := bills[m].stay) (es := es) HOK.out
      have hwa : IntKind.i64.wrap (movedR es 900 bills[m].stay + movedR es 600 bills[m].stay) = movedR es 900 bills[m].stay + movedR es 600 bills[m].stay := IntWalk.i64_in _ (by omega)
      have hwb : IntKind.i64.wrap (movedR es 900 bills[m].stay + movedR es 600 bills[m].stay + movedR es 800 bills[m].stay) = paidM es bills[m].stay := IntWalk.i64_in _ (by omega)
      have hpd : -360000000000 ≤ paidM es bills[m].stay ∧ paidM es bills[m].stay ≤ 360000000000 := by unfold paidM; omega
      clear hm9 hm6 hm8
      have HMV : Hid (∀ W acc, SlEnt W A1 es → Calls Try.prog 15 #[.slice A1 es.length c1, .int .i64 acc, .int .i64 bills[m].stay] W fun e w' => e = .returned (.int .i64 (movedR es acc bills[m].stay)) ∧ Below W.heap.size W w') := Lib.hid (fun W acc hW => rmov_any es A1 c1 acc bills[m].stay W hW (by omega) HOK.out (by omega))
      have HDID : Hid (∀ W k, SlDeed W Al l → SlInt W A2 errs → Calls Try.prog 17 #[.slice Al l.length cl, .slice A2 errs.length c2, .int .i64 k, .int .i64 bills[m].stay] W fun e w' => e = .returned (.bool (didR l errs k bills[m].stay)) ∧ Below W.heap.size W w') := Lib.hid (fun W k h1 h2 => did_any l errs Al A2 cl c2 k bills[m].stay W h1 h2 HRL.out (by omega))
      have HDUE : Hid (∀ W, SlEnt W A1 es → Calls Try.prog 20 #[.slice A1 es.length c1, .int .i64 bills[m].stay, .int .i64 366] W fun e w' => e = .returned (.tuple #[.int .i64 (movedR es (guestA bills[m].stay) bills[m].stay), .int .i64 0]) ∧ Below W.heap.size W w') := Lib.hid (fun W hW => by
        have := due_any es A1 c1 bills[m].stay 366 W hW (by omega)
        rw [due_moved HLED.out hsy.1 hsy.2] at this
        exact this)
      have HCLO : Hid (∀ W, SlEnt W A1 es → Calls Try.prog 21 #[.slice A1 es.length c1, .int .i64 bills[m].stay] W fun e w' => e = .returned (.tuple #[.bool (movedR es (guestA bills[m].stay) bills[m].stay == 0), .int .i64 0]) ∧ Below W.heap.size W w') := Lib.hid (fun W hW => by
        have := closed_any es A1 c1 bills[m].stay W hW (by omega)
        rw [due_moved HLED.out hsy.1 hsy.2] at this
        simpa using this)
      obtain ⟨r, n, er, hall⟩ : ∃ r n er, allT V.ts bills[m] = (r, n, er) := ⟨_, _, _, rfl⟩
      have HALL := Lib.hid hall
      generalize hG : movedR es (guestA bills[m].stay) bills[m].stay = G at *
      have HG := Lib.hid hG
      clear hG
      generalize hP : paidM es bills[m].stay = P at *
      have HPP := Lib.hid hP
      clear hP
      have hwn : IntKind.i64.wrap (-P) = -P := IntWalk.i64_in _ (by omega)
      have HRES : Hid (OwedR V l errs es bills[m]) := Lib.hid HL
      clear HL
      rcases HRES.out with ⟨hc, g⟩ | ⟨hc, d3, g⟩ | ⟨hc, d3, d6, g⟩ | ⟨n', r', hc, d3, d6, d5, h1, g, hn⟩ | ⟨hc, d3, d6, d5, g⟩
      · have hcb : decide (0 < bills[m].channel) = true := by simpa using hc
        have hg : (G == 0) = true := by rw [beq_iff_eq, ← HG.out]; exact g
        clear g hc
        go_wp2_with fail
        refine name_calls (fun w3 hw3 => ?_)
        have K3 : Below wr.heap.size wr w3 := by rw [hw3]; exact (by repeat' (first | (with_reducible exact Below.refl _ _) | (with_reducible assumption) | (with_reducible refine below_drewN ?_ _) | (with_reducible refine Below.drew ?_) | (with_reducible refine below_regrown_up _ _ ?_ ?_) | (with_reducible refine Below.alloc ?_ ?_ _) | (with_reducible refine Below.setCell ?_ ?_ _) | (with_reducible refine below_up ?_ ?_ (by assumption)) | (with_reducible exact Nat.le_refl _) | omega | (simp; done) | (simp; omega)))
        have c03 : w3.cell? ⟨wr.heap.size, 0, none⟩ = some (.int .i64 bills[m].stay) := by rw [hw3]; go_simp
        have c13 : w3.cell? ⟨wr.heap.size, 1, none⟩ = some (.int .i64 bills[m].channel) := by rw [hw3]; go_simp
        have c23 : w3.cell? ⟨wr.heap.size, 2, none⟩ = some (.int .i64 bills[m].place) := by rw [hw3]; go_simp
        have c33 : w3.cell? ⟨wr.heap.size, 3, none⟩ = some (.int .i64 bills[m].kind) := by rw [hw3]; go_simp
        have c43 : w3.cell? ⟨wr.heap.size, 4, none⟩ = some (.int .i64 bills[m].frm) := by rw [hw3]; go_simp
        have c53 : w3.cell? ⟨wr.heap.size, 5, none⟩ = some (.int .i64 bills[m].til) := by rw [hw3]; go_simp
        have c63 : w3.cell? ⟨wr.heap.size, 6, none⟩ = some (.int .i64 bills[m].persons) := by rw [hw3]; go_simp
        have c73 : w3.cell? ⟨wr.heap.size, 7, none⟩ = some (.int .i64 bills[m].price) := by rw [hw3]; go_simp
        have c83 : w3.cell? ⟨wr.heap.size, 8, none⟩ = some (.int .i64 bills[m].keep) := by rw [hw3]; go_simp
        have l3 : wr.heap.size < w3.heap.size := by rw [hw3]; simp
        clear hw3 q0 q1 q2 q3 q4 q5 q6 q7 q8
        have Sw := s1.up hbw
        refine (HDUE.out _ (Sw.up K3)).mono ?_
        rintro e w4 ⟨rfl, b4⟩
        have c04 := (b4.cell (p := ⟨wr.heap.size, 0, none⟩) l3).trans c03
        have c14 := (b4.cell (p := ⟨wr.heap.size, 1, none⟩) l3).trans c13
        have c24 := (b4.cell (p := ⟨wr.heap.size, 2, none⟩) l3).trans c23
        have c34 := (b4.cell (p := ⟨wr.heap.size, 3, none⟩) l3).trans c33
        have c44 := (b4.cell (p := ⟨wr.heap.size, 4, none⟩) l3).trans c43
        have c54 := (b4.cell (p := ⟨wr.heap.size, 5, none⟩) l3).trans c53
        have c64 := (b4.cell (p := ⟨wr.heap.size, 6, none⟩) l3).trans c63
        have c74 := (b4.cell (p := ⟨wr.heap.size, 7, none⟩) l3).trans c73
        have c84 := (b4.cell (p := ⟨wr.heap.size, 8, none⟩) l3).trans c83
        have l4 : wr.heap.size < w4.heap.size := Nat.lt_of_lt_of_le l3 b4.size
        have K4 := below_up K3 K3.size b4
        clear c03 c13 c23 c33 c43 c53 c63 c73 c83
        go_wp2_with fail
        refine (HCLO.out _ (Sw.up K4)).mono ?_
        rintro e w5 ⟨rfl, b5⟩
        rw [hg]
        have c05 := (b5.cell (p := ⟨wr.heap.size, 0, none⟩) l4).trans c04
        have c15 := (b5.cell (p := ⟨wr.heap.size, 1, none⟩) l4).trans c14
        have c25 := (b5.cell (p := ⟨wr.heap.size, 2, none⟩) l4).trans c24
        have c35 := (b5.cell (p := ⟨wr.heap.size, 3, none⟩) l4).trans c34
        have c45 := (b5.cell (p := ⟨wr.heap.size, 4, none⟩) l4).trans c44
        have c55 := (b5.cell (p := ⟨wr.heap.size, 5, none⟩) l4).trans c54
        have c65 := (b5.cell (p := ⟨wr.heap.size, 6, none⟩) l4).trans c64
        have c75 := (b5.cell (p := ⟨wr.heap.size, 7, none⟩) l4).trans c74
        have c85 := (b5.cell (p := ⟨wr.heap.size, 8, none⟩) l4).trans c84
        have l5 : wr.heap.size < w5.heap.size := Nat.lt_of_lt_of_le l4 b5.size
        have K5 := below_up K4 K4.size b5
        clear c04 c14 c24 c34 c44 c54 c64 c74 c84
        go_wp2_with fail
        refine (tall_lit HALL.out At ct _ (hts.up (below_up hBw hBw.size K5)) (by omega)).mono ?_
        rintro e w6 ⟨⟨A6, c6', rfl⟩, b6⟩
        have c06 := (b6.cell (p := ⟨wr.heap.size, 0, none⟩) l5).trans c05
        have c16 := (b6.cell (p := ⟨wr.heap.size, 1, none⟩) l5).trans c15
        have c26 := (b6.cell (p := ⟨wr.heap.size, 2, none⟩) l5).trans c25
        have c36 := (b6.cell (p := ⟨wr.heap.size, 3, none⟩) l5).trans c35
        have c46 := (b6.cell (p := ⟨wr.heap.size, 4, none⟩) l5).trans c45
        have c56 := (b6.cell (p := ⟨wr.heap.size, 5, none⟩) l5).trans c55
        have c66 := (b6.cell (p := ⟨wr.heap.size, 6, none⟩) l5).trans c65
        have c76 := (b6.cell (p := ⟨wr.heap.size, 7, none⟩) l5).trans c75
        have c86 := (b6.cell (p := ⟨wr.heap.size, 8, none⟩) l5).trans c85
        have l6 : wr.heap.size < w6.heap.size := Nat.lt_of_lt_of_le l5 b6.size
        have K6 := below_up K5 K5.size b6
        clear c05 c15 c25 c35 c45 c55 c65 c75 c85
        go_wp2_with fail
        have hgr := regrown_cells w6 (B := w6.heap.size) (by omega)
        refine wp_region_quiet_below (by kernel_rfl) (by kernel_rfl) ?_
        repeat (first | (go_big_quiet_step ((go_at_call 15; exact quiet_b (HMV.out _ _ ((Sw.up K6).up (below_regrown _ _ _)))))) | (quiet_step ((go_at_call 15; exact quiet_b (HMV.out _ _ ((Sw.up K6).up (below_regrown _ _ _)))))))
        refine wpQuiet_nil ?_
        intro _ hw'
        obtain ⟨⟨dq, osq⟩, hw''⟩ := hw'
        subst hw''
        have hb7 := below_regrown w6 dq osq
        clear hgr
        generalize grow (redrawn w6 dq) osq = w7 at hb7 ⊢
        have hz7 := hb7.size
        (try simp only [World.size_alloc, World.size_setCell, World.size_drew, size_drewN', size_grow, size_redrawn] at hz7)
        obtain ⟨hc7, hf7⟩ := bcellB (B := w6.heap.size) hb7 (by first | omega | (simp only [World.size_alloc, World.size_setCell, World.size_drew, size_drewN', size_grow, size_redrawn]; omega))
        have b7 := hb7
        clear hc7 hf7
        have c07 := (b7.cell (p := ⟨wr.heap.size, 0, none⟩) l6).trans c06
        have c17 := (b7.cell (p := ⟨wr.heap.size, 1, none⟩) l6).trans c16
        have c27 := (b7.cell (p := ⟨wr.heap.size, 2, none⟩) l6).trans c26
        have c37 := (b7.cell (p := ⟨wr.heap.size, 3, none⟩) l6).trans c36
        have c47 := (b7.cell (p := ⟨wr.heap.size, 4, none⟩) l6).trans c46
        have c57 := (b7.cell (p := ⟨wr.heap.size, 5, none⟩) l6).trans c56
        have c67 := (b7.cell (p := ⟨wr.heap.size, 6, none⟩) l6).trans c66
        have c77 := (b7.cell (p := ⟨wr.heap.size, 7, none⟩) l6).trans c76
        have c87 := (b7.cell (p := ⟨wr.heap.size, 8, none⟩) l6).trans c86
        have l7 : wr.heap.size < w7.heap.size := Nat.lt_of_lt_of_le l6 b7.size
        have K7 := below_up K6 K6.size b7
        clear c06 c16 c26 c36 c46 c56 c66 c76 c86
        have HB7 := Lib.hid (And.intro (hsl.up (below_up hBw hBw.size K7)) (And.intro (s2.up (below_up hbw hbz K7)) (below_up hbw hbz K7)))
        go_wp2_with fail
        go_roundw
        case rel => exact ⟨m + 1, by omega, by go_num, rfl, below_up hbw hbz K7⟩
        case measure => simp [intOf]; omega
      · have hcb : decide (0 < bills[m].channel) = false := by rw [decide_eq_false_iff_not]; omega
        have hg : (G == 0) = true := by rw [beq_iff_eq, ← HG.out]; exact g
        have D3 := Lib.hid d3
        clear g d3 hc
        go_wp2_with fail
        refine name_calls (fun w3 hw3 => ?_)
        have K3 : Below wr.heap.size wr w3 := by rw [hw3]; exact (by repeat' (first | (with_reducible exact Below.refl _ _) | (with_reducible assumption) | (with_reducible refine below_drewN ?_ _) | (with_reducible refine Below.drew ?_) | (with_reducible refine below_regrown_up _ _ ?_ ?_) | (with_reducible refine Below.alloc ?_ ?_ _) | (with_reducible refine Below.setCell ?_ ?_ _) | (with_reducible refine below_up ?_ ?_ (by assumption)) | (with_reducible exact Nat.le_refl _) | omega | (simp; done) | (simp; omega)))
        have c03 : w3.cell? ⟨wr.heap.size, 0, none⟩ = some (.int .i64 bills[m].stay) := by rw [hw3]; go_simp
        have c13 : w3.cell? ⟨wr.heap.size, 1, none⟩ = some (.int .i64 bills[m].channel) := by rw [hw3]; go_simp
        have c23 : w3.cell? ⟨wr.heap.size, 2, none⟩ = some (.int .i64 bills[m].place) := by rw [hw3]; go_simp
        have c33 : w3.cell? ⟨wr.heap.size, 3, none⟩ = some (.int .i64 bills[m].kind) := by rw [hw3]; go_simp
        have c43 : w3.cell? ⟨wr.heap.size, 4, none⟩ = some (.int .i64 bills[m].frm) := by rw [hw3]; go_simp
        have c53 : w3.cell? ⟨wr.heap.size, 5, none⟩ = some (.int .i64 bills[m].til) := by rw [hw3]; go_simp
        have c63 : w3.cell? ⟨wr.heap.size, 6, none⟩ = some (.int .i64 bills[m].persons) := by rw [hw3]; go_simp
        have c73 : w3.cell? ⟨wr.heap.size, 7, none⟩ = some (.int .i64 bills[m].price) := by rw [hw3]; go_simp
        have c83 : w3.cell? ⟨wr.heap.size, 8, none⟩ = some (.int .i64 bills[m].keep) := by rw [hw3]; go_simp
        have l3 : wr.heap.size < w3.heap.size := by rw [hw3]; simp
        clear hw3 q0 q1 q2 q3 q4 q5 q6 q7 q8
        have Sw := s1.up hbw
        refine (HDUE.out _ (Sw.up K3)).mono ?_
        rintro e w4 ⟨rfl, b4⟩
        have c04 := (b4.cell (p := ⟨wr.heap.size, 0, none⟩) l3).trans c03
        have c14 := (b4.cell (p := ⟨wr.heap.size, 1, none⟩) l3).trans c13
        have c24 := (b4.cell (p := ⟨wr.heap.size, 2, none⟩) l3).trans c23
        have c34 := (b4.cell (p := ⟨wr.heap.size, 3, none⟩) l3).trans c33
        have c44 := (b4.cell (p := ⟨wr.heap.size, 4, none⟩) l3).trans c43
        have c54 := (b4.cell (p := ⟨wr.heap.size, 5, none⟩) l3).trans c53
        have c64 := (b4.cell (p := ⟨wr.heap.size, 6, none⟩) l3).trans c63
        have c74 := (b4.cell (p := ⟨wr.heap.size, 7, none⟩) l3).trans c73
        have c84 := (b4.cell (p := ⟨wr.heap.size, 8, none⟩) l3).trans c83
        have l4 : wr.heap.size < w4.heap.size := Nat.lt_of_lt_of_le l3 b4.size
        have K4 := below_up K3 K3.size b4
        clear c03 c13 c23 c33 c43 c53 c63 c73 c83
        go_wp2_with fail
        refine (HCLO.out _ (Sw.up K4)).mono ?_
        rintro e w5 ⟨rfl, b5⟩
        rw [hg]
        have c05 := (b5.cell (p := ⟨wr.heap.size, 0, none⟩) l4).trans c04
        have c15 := (b5.cell (p := ⟨wr.heap.size, 1, none⟩) l4).trans c14
        have c25 := (b5.cell (p := ⟨wr.heap.size, 2, none⟩) l4).trans c24
        have c35 := (b5.cell (p := ⟨wr.heap.size, 3, none⟩) l4).trans c34
        have c45 := (b5.cell (p := ⟨wr.heap.size, 4, none⟩) l4).trans c44
        have c55 := (b5.cell (p := ⟨wr.heap.size, 5, none⟩) l4).trans c54
        have c65 := (b5.cell (p := ⟨wr.heap.size, 6, none⟩) l4).trans c64
        have c75 := (b5.cell (p := ⟨wr.heap.size, 7, none⟩) l4).trans c74
        have c85 := (b5.cell (p := ⟨wr.heap.size, 8, none⟩) l4).trans c84
        have l5 : wr.heap.size < w5.heap.size := Nat.lt_of_lt_of_le l4 b5.size
        have K5 := below_up K4 K4.size b5
        clear c04 c14 c24 c34 c44 c54 c64 c74 c84
        go_wp2_with fail
        refine (tall_lit HALL.out At ct _ (hts.up (below_up hBw hBw.size K5)) (by omega)).mono ?_
        rintro e w6 ⟨⟨A6, c6', rfl⟩, b6⟩
        have c06 := (b6.cell (p := ⟨wr.heap.size, 0, none⟩) l5).trans c05
        have c16 := (b6.cell (p := ⟨wr.heap.size, 1, none⟩) l5).trans c15
        have c26 := (b6.cell (p := ⟨wr.heap.size, 2, none⟩) l5).trans c25
        have c36 := (b6.cell (p := ⟨wr.heap.size, 3, none⟩) l5).trans c35
        have c46 := (b6.cell (p := ⟨wr.heap.size, 4, none⟩) l5).trans c45
        have c56 := (b6.cell (p := ⟨wr.heap.size, 5, none⟩) l5).trans c55
        have c66 := (b6.cell (p := ⟨wr.heap.size, 6, none⟩) l5).trans c65
        have c76 := (b6.cell (p := ⟨wr.heap.size, 7, none⟩) l5).trans c75
        have c86 := (b6.cell (p := ⟨wr.heap.size, 8, none⟩) l5).trans c85
        have l6 : wr.heap.size < w6.heap.size := Nat.lt_of_lt_of_le l5 b6.size
        have K6 := below_up K5 K5.size b6
        clear c05 c15 c25 c35 c45 c55 c65 c75 c85
        go_wp2_with fail
        have hgr := regrown_cells w6 (B := w6.heap.size) (by omega)
        refine wp_region_quiet_below (by kernel_rfl) (by kernel_rfl) ?_
        repeat (first | (go_big_quiet_step ((go_at_call 15; exact quiet_b (HMV.out _ _ ((Sw.up K6).up (below_regrown _ _ _)))))) | (quiet_step ((go_at_call 15; exact quiet_b (HMV.out _ _ ((Sw.up K6).up (below_regrown _ _ _)))))))
        refine wpQuiet_nil ?_
        intro _ hw'
        obtain ⟨⟨dq, osq⟩, hw''⟩ := hw'
        subst hw''
        have hb7 := below_regrown w6 dq osq
        clear hgr
        generalize grow (redrawn w6 dq) osq = w7 at hb7 ⊢
        have hz7 := hb7.size
        (try simp only [World.size_alloc, World.size_setCell, World.size_drew, size_drewN', size_grow, size_redrawn] at hz7)
        obtain ⟨hc7, hf7⟩ := bcellB (B := w6.heap.size) hb7 (by first | omega | (simp only [World.size_alloc, World.size_setCell, World.size_drew, size_drewN', size_grow, size_redrawn]; omega))
        have b7 := hb7
        clear hc7 hf7
        have c07 := (b7.cell (p := ⟨wr.heap.size, 0, none⟩) l6).trans c06
        have c17 := (b7.cell (p := ⟨wr.heap.size, 1, none⟩) l6).trans c16
        have c27 := (b7.cell (p := ⟨wr.heap.size, 2, none⟩) l6).trans c26
        have c37 := (b7.cell (p := ⟨wr.heap.size, 3, none⟩) l6).trans c36
        have c47 := (b7.cell (p := ⟨wr.heap.size, 4, none⟩) l6).trans c46
        have c57 := (b7.cell (p := ⟨wr.heap.size, 5, none⟩) l6).trans c56
        have c67 := (b7.cell (p := ⟨wr.heap.size, 6, none⟩) l6).trans c66
        have c77 := (b7.cell (p := ⟨wr.heap.size, 7, none⟩) l6).trans c76
        have c87 := (b7.cell (p := ⟨wr.heap.size, 8, none⟩) l6).trans c86
        have l7 : wr.heap.size < w7.heap.size := Nat.lt_of_lt_of_le l6 b7.size
        have K7 := below_up K6 K6.size b7
        clear c06 c16 c26 c36 c46 c56 c66 c76 c86
        have HB7 := Lib.hid (And.intro (hsl.up (below_up hBw hBw.size K7)) (And.intro (s2.up (below_up hbw hbz K7)) (below_up hbw hbz K7)))
        go_wp2_with fail
        refine (HDID.out _ 3 (hsl.up (below_up hBw hBw.size K7)) (s2.up (below_up hbw hbz K7))).mono ?_
        rintro e w8 ⟨rfl, b8⟩
        rw [D3.out]
        have c08 := (b8.cell (p := ⟨wr.heap.size, 0, none⟩) l7).trans c07
        have c18 := (b8.cell (p := ⟨wr.heap.size, 1, none⟩) l7).trans c17
        have c28 := (b8.cell (p := ⟨wr.heap.size, 2, none⟩) l7).trans c27
        have c38 := (b8.cell (p := ⟨wr.heap.size, 3, none⟩) l7).trans c37
        have c48 := (b8.cell (p := ⟨wr.heap.size, 4, none⟩) l7).trans c47
        have c58 := (b8.cell (p := ⟨wr.heap.size, 5, none⟩) l7).trans c57
        have c68 := (b8.cell (p := ⟨wr.heap.size, 6, none⟩) l7).trans c67
        have c78 := (b8.cell (p := ⟨wr.heap.size, 7, none⟩) l7).trans c77
        have c88 := (b8.cell (p := ⟨wr.heap.size, 8, none⟩) l7).trans c87
        have l8 : wr.heap.size < w8.heap.size := Nat.lt_of_lt_of_le l7 b8.size
        have K8 := below_up K7 K7.size b8
        clear c07 c17 c27 c37 c47 c57 c67 c77 c87
        go_wp2_with fail
        go_roundw
        case rel => exact ⟨m + 1, by omega, by go_num, rfl, below_up hbw hbz K8⟩
        case measure => simp [intOf]; omega
      · have hcb : decide (0 < bills[m].channel) = false := by rw [decide_eq_false_iff_not]; omega
        have hg : (G == 0) = true := by rw [beq_iff_eq, ← HG.out]; exact g
        have D3 := Lib.hid d3
        have D6 := Lib.hid d6
        clear g d3 d6 hc
        go_wp2_with fail
        refine name_calls (fun w3 hw3 => ?_)
        have K3 : Below wr.heap.size wr w3 := by rw [hw3]; exact (by repeat' (first | (with_reducible exact Below.refl _ _) | (with_reducible assumption) | (with_reducible refine below_drewN ?_ _) | (with_reducible refine Below.drew ?_) | (with_reducible refine below_regrown_up _ _ ?_ ?_) | (with_reducible refine Below.alloc ?_ ?_ _) | (with_reducible refine Below.setCell ?_ ?_ _) | (with_reducible refine below_up ?_ ?_ (by assumption)) | (with_reducible exact Nat.le_refl _) | omega | (simp; done) | (simp; omega)))
        have c03 : w3.cell? ⟨wr.heap.size, 0, none⟩ = some (.int .i64 bills[m].stay) := by rw [hw3]; go_simp
        have c13 : w3.cell? ⟨wr.heap.size, 1, none⟩ = some (.int .i64 bills[m].channel) := by rw [hw3]; go_simp
        have c23 : w3.cell? ⟨wr.heap.size, 2, none⟩ = some (.int .i64 bills[m].place) := by rw [hw3]; go_simp
        have c33 : w3.cell? ⟨wr.heap.size, 3, none⟩ = some (.int .i64 bills[m].kind) := by rw [hw3]; go_simp
        have c43 : w3.cell? ⟨wr.heap.size, 4, none⟩ = some (.int .i64 bills[m].frm) := by rw [hw3]; go_simp
        have c53 : w3.cell? ⟨wr.heap.size, 5, none⟩ = some (.int .i64 bills[m].til) := by rw [hw3]; go_simp
        have c63 : w3.cell? ⟨wr.heap.size, 6, none⟩ = some (.int .i64 bills[m].persons) := by rw [hw3]; go_simp
        have c73 : w3.cell? ⟨wr.heap.size, 7, none⟩ = some (.int .i64 bills[m].price) := by rw [hw3]; go_simp
        have c83 : w3.cell? ⟨wr.heap.size, 8, none⟩ = some (.int .i64 bills[m].keep) := by rw [hw3]; go_simp
        have l3 : wr.heap.size < w3.heap.size := by rw [hw3]; simp
        clear hw3 q0 q1 q2 q3 q4 q5 q6 q7 q8
        have Sw := s1.up hbw
        refine (HDUE.out _ (Sw.up K3)).mono ?_
        rintro e w4 ⟨rfl, b4⟩
        have c04 := (b4.cell (p := ⟨wr.heap.size, 0, none⟩) l3).trans c03
        have c14 := (b4.cell (p := ⟨wr.heap.size, 1, none⟩) l3).trans c13
        have c24 := (b4.cell (p := ⟨wr.heap.size, 2, none⟩) l3).trans c23
        have c34 := (b4.cell (p := ⟨wr.heap.size, 3, none⟩) l3).trans c33
        have c44 := (b4.cell (p := ⟨wr.heap.size, 4, none⟩) l3).trans c43
        have c54 := (b4.cell (p := ⟨wr.heap.size, 5, none⟩) l3).trans c53
        have c64 := (b4.cell (p := ⟨wr.heap.size, 6, none⟩) l3).trans c63
        have c74 := (b4.cell (p := ⟨wr.heap.size, 7, none⟩) l3).trans c73
        have c84 := (b4.cell (p := ⟨wr.heap.size, 8, none⟩) l3).trans c83
        have l4 : wr.heap.size < w4.heap.size := Nat.lt_of_lt_of_le l3 b4.size
        have K4 := below_up K3 K3.size b4
        clear c03 c13 c23 c33 c43 c53 c63 c73 c83
        go_wp2_with fail
        refine (HCLO.out _ (Sw.up K4)).mono ?_
        rintro e w5 ⟨rfl, b5⟩
        rw [hg]
        have c05 := (b5.cell (p := ⟨wr.heap.size, 0, none⟩) l4).trans c04
        have c15 := (b5.cell (p := ⟨wr.heap.size, 1, none⟩) l4).trans c14
        have c25 := (b5.cell (p := ⟨wr.heap.size, 2, none⟩) l4).trans c24
        have c35 := (b5.cell (p := ⟨wr.heap.size, 3, none⟩) l4).trans c34
        have c45 := (b5.cell (p := ⟨wr.heap.size, 4, none⟩) l4).trans c44
        have c55 := (b5.cell (p := ⟨wr.heap.size, 5, none⟩) l4).trans c54
        have c65 := (b5.cell (p := ⟨wr.heap.size, 6, none⟩) l4).trans c64
        have c75 := (b5.cell (p := ⟨wr.heap.size, 7, none⟩) l4).trans c74
        have c85 := (b5.cell (p := ⟨wr.heap.size, 8, none⟩) l4).trans c84
        have l5 : wr.heap.size < w5.heap.size := Nat.lt_of_lt_of_le l4 b5.size
        have K5 := below_up K4 K4.size b5
        clear c04 c14 c24 c34 c44 c54 c64 c74 c84
        go_wp2_with fail
        refine (tall_lit HALL.out At ct _ (hts.up (below_up hBw hBw.size K5)) (by omega)).mono ?_
        rintro e w6 ⟨⟨A6, c6', rfl⟩, b6⟩
        have c06 := (b6.cell (p := ⟨wr.heap.size, 0, none⟩) l5).trans c05
        have c16 := (b6.cell (p := ⟨wr.heap.size, 1, none⟩) l5).trans c15
        have c26 := (b6.cell (p := ⟨wr.heap.size, 2, none⟩) l5).trans c25
        have c36 := (b6.cell (p := ⟨wr.heap.size, 3, none⟩) l5).trans c35
        have c46 := (b6.cell (p := ⟨wr.heap.size, 4, none⟩) l5).trans c45
        have c56 := (b6.cell (p := ⟨wr.heap.size, 5, none⟩) l5).trans c55
        have c66 := (b6.cell (p := ⟨wr.heap.size, 6, none⟩) l5).trans c65
        have c76 := (b6.cell (p := ⟨wr.heap.size, 7, none⟩) l5).trans c75
        have c86 := (b6.cell (p := ⟨wr.heap.size, 8, none⟩) l5).trans c85
        have l6 : wr.heap.size < w6.heap.size := Nat.lt_of_lt_of_le l5 b6.size
        have K6 := below_up K5 K5.size b6
        clear c05 c15 c25 c35 c45 c55 c65 c75 c85
        go_wp2_with fail
        have hgr := regrown_cells w6 (B := w6.heap.size) (by omega)
        refine wp_region_quiet_below (by kernel_rfl) (by kernel_rfl) ?_
        repeat (first | (go_big_quiet_step ((go_at_call 15; exact quiet_b (HMV.out _ _ ((Sw.up K6).up (below_regrown _ _ _)))))) | (quiet_step ((go_at_call 15; exact quiet_b (HMV.out _ _ ((Sw.up K6).up (below_regrown _ _ _)))))))
        refine wpQuiet_nil ?_
        intro _ hw'
        obtain ⟨⟨dq, osq⟩, hw''⟩ := hw'
        subst hw''
        have hb7 := below_regrown w6 dq osq
        clear hgr
        generalize grow (redrawn w6 dq) osq = w7 at hb7 ⊢
        have hz7 := hb7.size
        (try simp only [World.size_alloc, World.size_setCell, World.size_drew, size_drewN', size_grow, size_redrawn] at hz7)
        obtain ⟨hc7, hf7⟩ := bcellB (B := w6.heap.size) hb7 (by first | omega | (simp only [World.size_alloc, World.size_setCell, World.size_drew, size_drewN', size_grow, size_redrawn]; omega))
        have b7 := hb7
        clear hc7 hf7
        have c07 := (b7.cell (p := ⟨wr.heap.size, 0, none⟩) l6).trans c06
        have c17 := (b7.cell (p := ⟨wr.heap.size, 1, none⟩) l6).trans c16
        have c27 := (b7.cell (p := ⟨wr.heap.size, 2, none⟩) l6).trans c26
        have c37 := (b7.cell (p := ⟨wr.heap.size, 3, none⟩) l6).trans c36
        have c47 := (b7.cell (p := ⟨wr.heap.size, 4, none⟩) l6).trans c46
        have c57 := (b7.cell (p := ⟨wr.heap.size, 5, none⟩) l6).trans c56
        have c67 := (b7.cell (p := ⟨wr.heap.size, 6, none⟩) l6).trans c66
        have c77 := (b7.cell (p := ⟨wr.heap.size, 7, none⟩) l6).trans c76
        have c87 := (b7.cell (p := ⟨wr.heap.size, 8, none⟩) l6).trans c86
        have l7 : wr.heap.size < w7.heap.size := Nat.lt_of_lt_of_le l6 b7.size
        have K7 := below_up K6 K6.size b7
        clear c06 c16 c26 c36 c46 c56 c66 c76 c86
        have HB7 := Lib.hid (And.intro (hsl.up (below_up hBw hBw.size K7)) (And.intro (s2.up (below_up hbw hbz K7)) (below_up hbw hbz K7)))
        go_wp2_with fail
        refine (HDID.out _ 3 (hsl.up (below_up hBw hBw.size K7)) (s2.up (below_up hbw hbz K7))).mono ?_
        rintro e w8 ⟨rfl, b8⟩
        rw [D3.out]
        have c08 := (b8.cell (p := ⟨wr.heap.size, 0, none⟩) l7).trans c07
        have c18 := (b8.cell (p := ⟨wr.heap.size, 1, none⟩) l7).trans c17
        have c28 := (b8.cell (p := ⟨wr.heap.size, 2, none⟩) l7).trans c27
        have c38 := (b8.cell (p := ⟨wr.heap.size, 3, none⟩) l7).trans c37
        have c48 := (b8.cell (p := ⟨wr.heap.size, 4, none⟩) l7).trans c47
        have c58 := (b8.cell (p := ⟨wr.heap.size, 5, none⟩) l7).trans c57
        have c68 := (b8.cell (p := ⟨wr.heap.size, 6, none⟩) l7).trans c67
        have c78 := (b8.cell (p := ⟨wr.heap.size, 7, none⟩) l7).trans c77
        have c88 := (b8.cell (p := ⟨wr.heap.size, 8, none⟩) l7).trans c87
        have l8 : wr.heap.size < w8.heap.size := Nat.lt_of_lt_of_le l7 b8.size
        have K8 := below_up K7 K7.size b8
        clear c07 c17 c27 c37 c47 c57 c67 c77 c87
        go_wp2_with fail
        refine (HDID.out _ 6 (hsl.up (below_up hBw hBw.size K8)) (s2.up (below_up hbw hbz K8))).mono ?_
        rintro e w9 ⟨rfl, b9⟩
        rw [D6.out]
        have c09 := (b9.cell (p := ⟨wr.heap.size, 0, none⟩) l8).trans c08
        have c19 := (b9.cell (p := ⟨wr.heap.size, 1, none⟩) l8).trans c18
        have c29 := (b9.cell (p := ⟨wr.heap.size, 2, none⟩) l8).trans c28
        have c39 := (b9.cell (p := ⟨wr.heap.size, 3, none⟩) l8).trans c38
        have c49 := (b9.cell (p := ⟨wr.heap.size, 4, none⟩) l8).trans c48
        have c59 := (b9.cell (p := ⟨wr.heap.size, 5, none⟩) l8).trans c58
        have c69 := (b9.cell (p := ⟨wr.heap.size, 6, none⟩) l8).trans c68
        have c79 := (b9.cell (p := ⟨wr.heap.size, 7, none⟩) l8).trans c78
        have c89 := (b9.cell (p := ⟨wr.heap.size, 8, none⟩) l8).trans c88
        have l9 : wr.heap.size < w9.heap.size := Nat.lt_of_lt_of_le l8 b9.size
        have K9 := below_up K8 K8.size b9
        clear c08 c18 c28 c38 c48 c58 c68 c78 c88
        go_wp2_with fail
        go_roundw
        case rel => exact ⟨m + 1, by omega, by go_num, rfl, below_up hbw hbz K9⟩
        case measure => simp [intOf]; omega
      · have hcb : decide (0 < bills[m].channel) = false := by rw [decide_eq_false_iff_not]; omega
        obtain ⟨rfl, rfl, rfl⟩ : r = r' ∧ n = n' ∧ er = 0 := by
          have h2 := HALL.out.symm.trans h1
          injection h2 with h2 h3
          injection h3 with h3 h4
          exact ⟨h2, h3, h4⟩
        have hE : (G == bills[m].price + n - P) = true := by rw [beq_iff_eq, ← HG.out, ← HPP.out]; exact g
        have D3 := Lib.hid d3
        have D6 := Lib.hid d6
        have D5 := Lib.hid d5
        clear g d3 d6 d5 hc h1
        cases hg : (G == 0)
        all_goals
          go_wp2_with fail
          refine name_calls (fun w3 hw3 => ?_)
          have K3 : Below wr.heap.size wr w3 := by rw [hw3]; exact (by repeat' (first | (with_reducible exact Below.refl _ _) | (with_reducible assumption) | (with_reducible refine below_drewN ?_ _) | (with_reducible refine Below.drew ?_) | (with_reducible refine below_regrown_up _ _ ?_ ?_) | (with_reducible refine Below.alloc ?_ ?_ _) | (with_reducible refine Below.setCell ?_ ?_ _) | (with_reducible refine below_up ?_ ?_ (by assumption)) | (with_reducible exact Nat.le_refl _) | omega | (simp; done) | (simp; omega)))
          have c03 : w3.cell? ⟨wr.heap.size, 0, none⟩ = some (.int .i64 bills[m].stay) := by rw [hw3]; go_simp
          have c13 : w3.cell? ⟨wr.heap.size, 1, none⟩ = some (.int .i64 bills[m].channel) := by rw [hw3]; go_simp
          have c23 : w3.cell? ⟨wr.heap.size, 2, none⟩ = some (.int .i64 bills[m].place) := by rw [hw3]; go_simp
          have c33 : w3.cell? ⟨wr.heap.size, 3, none⟩ = some (.int .i64 bills[m].kind) := by rw [hw3]; go_simp
          have c43 : w3.cell? ⟨wr.heap.size, 4, none⟩ = some (.int .i64 bills[m].frm) := by rw [hw3]; go_simp
          have c53 : w3.cell? ⟨wr.heap.size, 5, none⟩ = some (.int .i64 bills[m].til) := by rw [hw3]; go_simp
          have c63 : w3.cell? ⟨wr.heap.size, 6, none⟩ = some (.int .i64 bills[m].persons) := by rw [hw3]; go_simp
          have c73 : w3.cell? ⟨wr.heap.size, 7, none⟩ = some (.int .i64 bills[m].price) := by rw [hw3]; go_simp
          have c83 : w3.cell? ⟨wr.heap.size, 8, none⟩ = some (.int .i64 bills[m].keep) := by rw [hw3]; go_simp
          have l3 : wr.heap.size < w3.heap.size := by rw [hw3]; simp
          clear hw3 q0 q1 q2 q3 q4 q5 q6 q7 q8
          have Sw := s1.up hbw
          refine (HDUE.out _ (Sw.up K3)).mono ?_
          rintro e w4 ⟨rfl, b4⟩
          have c04 := (b4.cell (p := ⟨wr.heap.size, 0, none⟩) l3).trans c03
          have c14 := (b4.cell (p := ⟨wr.heap.size, 1, none⟩) l3).trans c13
          have c24 := (b4.cell (p := ⟨wr.heap.size, 2, none⟩) l3).trans c23
          have c34 := (b4.cell (p := ⟨wr.heap.size, 3, none⟩) l3).trans c33
          have c44 := (b4.cell (p := ⟨wr.heap.size, 4, none⟩) l3).trans c43
          have c54 := (b4.cell (p := ⟨wr.heap.size, 5, none⟩) l3).trans c53
          have c64 := (b4.cell (p := ⟨wr.heap.size, 6, none⟩) l3).trans c63
          have c74 := (b4.cell (p := ⟨wr.heap.size, 7, none⟩) l3).trans c73
          have c84 := (b4.cell (p := ⟨wr.heap.size, 8, none⟩) l3).trans c83
          have l4 : wr.heap.size < w4.heap.size := Nat.lt_of_lt_of_le l3 b4.size
          have K4 := below_up K3 K3.size b4
          clear c03 c13 c23 c33 c43 c53 c63 c73 c83
          go_wp2_with fail
          refine (HCLO.out _ (Sw.up K4)).mono ?_
          rintro e w5 ⟨rfl, b5⟩
          rw [hg]
          have c05 := (b5.cell (p := ⟨wr.heap.size, 0, none⟩) l4).trans c04
          have c15 := (b5.cell (p := ⟨wr.heap.size, 1, none⟩) l4).trans c14
          have c25 := (b5.cell (p := ⟨wr.heap.size, 2, none⟩) l4).trans c24
          have c35 := (b5.cell (p := ⟨wr.heap.size, 3, none⟩) l4).trans c34
          have c45 := (b5.cell (p := ⟨wr.heap.size, 4, none⟩) l4).trans c44
          have c55 := (b5.cell (p := ⟨wr.heap.size, 5, none⟩) l4).trans c54
          have c65 := (b5.cell (p := ⟨wr.heap.size, 6, none⟩) l4).trans c64
          have c75 := (b5.cell (p := ⟨wr.heap.size, 7, none⟩) l4).trans c74
          have c85 := (b5.cell (p := ⟨wr.heap.size, 8, none⟩) l4).trans c84
          have l5 : wr.heap.size < w5.heap.size := Nat.lt_of_lt_of_le l4 b5.size
          have K5 := below_up K4 K4.size b5
          clear c04 c14 c24 c34 c44 c54 c64 c74 c84
          go_wp2_with fail
          refine (tall_lit HALL.out At ct _ (hts.up (below_up hBw hBw.size K5)) (by omega)).mono ?_
          rintro e w6 ⟨⟨A6, c6', rfl⟩, b6⟩
          have c06 := (b6.cell (p := ⟨wr.heap.size, 0, none⟩) l5).trans c05
          have c16 := (b6.cell (p := ⟨wr.heap.size, 1, none⟩) l5).trans c15
          have c26 := (b6.cell (p := ⟨wr.heap.size, 2, none⟩) l5).trans c25
          have c36 := (b6.cell (p := ⟨wr.heap.size, 3, none⟩) l5).trans c35
          have c46 := (b6.cell (p := ⟨wr.heap.size, 4, none⟩) l5).trans c45
          have c56 := (b6.cell (p := ⟨wr.heap.size, 5, none⟩) l5).trans c55
          have c66 := (b6.cell (p := ⟨wr.heap.size, 6, none⟩) l5).trans c65
          have c76 := (b6.cell (p := ⟨wr.heap.size, 7, none⟩) l5).trans c75
          have c86 := (b6.cell (p := ⟨wr.heap.size, 8, none⟩) l5).trans c85
          have l6 : wr.heap.size < w6.heap.size := Nat.lt_of_lt_of_le l5 b6.size
          have K6 := below_up K5 K5.size b6
          clear c05 c15 c25 c35 c45 c55 c65 c75 c85
          go_wp2_with fail
          have hgr := regrown_cells w6 (B := w6.heap.size) (by omega)
          refine wp_region_quiet_below (by kernel_rfl) (by kernel_rfl) ?_
          repeat (first | (go_big_quiet_step ((go_at_call 15; exact quiet_b (HMV.out _ _ ((Sw.up K6).up (below_regrown _ _ _)))))) | (quiet_step ((go_at_call 15; exact quiet_b (HMV.out _ _ ((Sw.up K6).up (below_regrown _ _ _)))))))
          refine wpQuiet_nil ?_
          intro _ hw'
          obtain ⟨⟨dq, osq⟩, hw''⟩ := hw'
          subst hw''
          have hb7 := below_regrown w6 dq osq
          clear hgr
          generalize grow (redrawn w6 dq) osq = w7 at hb7 ⊢
          have hz7 := hb7.size
          (try simp only [World.size_alloc, World.size_setCell, World.size_drew, size_drewN', size_grow, size_redrawn] at hz7)
          obtain ⟨hc7, hf7⟩ := bcellB (B := w6.heap.size) hb7 (by first | omega | (simp only [World.size_alloc, World.size_setCell, World.size_drew, size_drewN', size_grow, size_redrawn]; omega))
          have b7 := hb7
          clear hc7 hf7
          have c07 := (b7.cell (p := ⟨wr.heap.size, 0, none⟩) l6).trans c06
          have c17 := (b7.cell (p := ⟨wr.heap.size, 1, none⟩) l6).trans c16
          have c27 := (b7.cell (p := ⟨wr.heap.size, 2, none⟩) l6).trans c26
          have c37 := (b7.cell (p := ⟨wr.heap.size, 3, none⟩) l6).trans c36
          have c47 := (b7.cell (p := ⟨wr.heap.size, 4, none⟩) l6).trans c46
          have c57 := (b7.cell (p := ⟨wr.heap.size, 5, none⟩) l6).trans c56
          have c67 := (b7.cell (p := ⟨wr.heap.size, 6, none⟩) l6).trans c66
          have c77 := (b7.cell (p := ⟨wr.heap.size, 7, none⟩) l6).trans c76
          have c87 := (b7.cell (p := ⟨wr.heap.size, 8, none⟩) l6).trans c86
          have l7 : wr.heap.size < w7.heap.size := Nat.lt_of_lt_of_le l6 b7.size
          have K7 := below_up K6 K6.size b7
          clear c06 c16 c26 c36 c46 c56 c66 c76 c86
          have HB7 := Lib.hid (And.intro (hsl.up (below_up hBw hBw.size K7)) (And.intro (s2.up (below_up hbw hbz K7)) (below_up hbw hbz K7)))
          go_wp2_with fail
          refine (HDID.out _ 3 (hsl.up (below_up hBw hBw.size K7)) (s2.up (below_up hbw hbz K7))).mono ?_
          rintro e w8 ⟨rfl, b8⟩
          rw [D3.out]
          have c08 := (b8.cell (p := ⟨wr.heap.size, 0, none⟩) l7).trans c07
          have c18 := (b8.cell (p := ⟨wr.heap.size, 1, none⟩) l7).trans c17
          have c28 := (b8.cell (p := ⟨wr.heap.size, 2, none⟩) l7).trans c27
          have c38 := (b8.cell (p := ⟨wr.heap.size, 3, none⟩) l7).trans c37
          have c48 := (b8.cell (p := ⟨wr.heap.size, 4, none⟩) l7).trans c47
          have c58 := (b8.cell (p := ⟨wr.heap.size, 5, none⟩) l7).trans c57
          have c68 := (b8.cell (p := ⟨wr.heap.size, 6, none⟩) l7).trans c67
          have c78 := (b8.cell (p := ⟨wr.heap.size, 7, none⟩) l7).trans c77
          have c88 := (b8.cell (p := ⟨wr.heap.size, 8, none⟩) l7).trans c87
          have l8 : wr.heap.size < w8.heap.size := Nat.lt_of_lt_of_le l7 b8.size
          have K8 := below_up K7 K7.size b8
          clear c07 c17 c27 c37 c47 c57 c67 c77 c87
          go_wp2_with fail
          refine (HDID.out _ 6 (hsl.up (below_up hBw hBw.size K8)) (s2.up (below_up hbw hbz K8))).mono ?_
          rintro e w9 ⟨rfl, b9⟩
          rw [D6.out]
          have c09 := (b9.cell (p := ⟨wr.heap.size, 0, none⟩) l8).trans c08
          have c19 := (b9.cell (p := ⟨wr.heap.size, 1, none⟩) l8).trans c18
          have c29 := (b9.cell (p := ⟨wr.heap.size, 2, none⟩) l8).trans c28
          have c39 := (b9.cell (p := ⟨wr.heap.size, 3, none⟩) l8).trans c38
          have c49 := (b9.cell (p := ⟨wr.heap.size, 4, none⟩) l8).trans c48
          have c59 := (b9.cell (p := ⟨wr.heap.size, 5, none⟩) l8).trans c58
          have c69 := (b9.cell (p := ⟨wr.heap.size, 6, none⟩) l8).trans c68
          have c79 := (b9.cell (p := ⟨wr.heap.size, 7, none⟩) l8).trans c78
          have c89 := (b9.cell (p := ⟨wr.heap.size, 8, none⟩) l8).trans c88
          have l9 : wr.heap.size < w9.heap.size := Nat.lt_of_lt_of_le l8 b9.size
          have K9 := below_up K8 K8.size b9
          clear c08 c18 c28 c38 c48 c58 c68 c78 c88
          go_wp2_with fail
          refine (HDID.out _ 5 (hsl.up (below_up hBw hBw.size K9)) (s2.up (below_up hbw hbz K9))).mono ?_
          rintro e w10 ⟨rfl, b10⟩
          rw [D5.out]
          have c010 := (b10.cell (p := ⟨wr.heap.size, 0, none⟩) l9).trans c09
          have c110 := (b10.cell (p := ⟨wr.heap.size, 1, none⟩) l9).trans c19
          have c210 := (b10.cell (p := ⟨wr.heap.size, 2, none⟩) l9).trans c29
          have c310 := (b10.cell (p := ⟨wr.heap.size, 3, none⟩) l9).trans c39
          have c410 := (b10.cell (p := ⟨wr.heap.size, 4, none⟩) l9).trans c49
          have c510 := (b10.cell (p := ⟨wr.heap.size, 5, none⟩) l9).trans c59
          have c610 := (b10.cell (p := ⟨wr.heap.size, 6, none⟩) l9).trans c69
          have c710 := (b10.cell (p := ⟨wr.heap.size, 7, none⟩) l9).trans c79
          have c810 := (b10.cell (p := ⟨wr.heap.size, 8, none⟩) l9).trans c89
          have l10 : wr.heap.size < w10.heap.size := Nat.lt_of_lt_of_le l9 b10.size
          have K10 := below_up K9 K9.size b10
          clear c09 c19 c29 c39 c49 c59 c69 c79 c89
          go_wp2_with fail
          go_roundw
          case rel => exact ⟨m + 1, by omega, by go_num, rfl, below_up hbw hbz K10⟩
          case measure => simp [intOf]; omega
      · have hcb : decide (0 < bills[m].channel) = false := by rw [decide_eq_false_iff_not]; omega
        have hE : (G == -P) = true := by rw [beq_iff_eq, ← HG.out, ← HPP.out]; exact g
        have D3 := Lib.hid d3
        have D6 := Lib.hid d6
        have D5 := Lib.hid d5
        clear g d3 d6 d5 hc
        cases hg : (G == 0)
        all_goals
          go_wp2_with fail
          refine name_calls (fun w3 hw3 => ?_)
          have K3 : Below wr.heap.size wr w3 := by rw [hw3]; exact (by repeat' (first | (with_reducible exact Below.refl _ _) | (with_reducible assumption) | (with_reducible refine below_drewN ?_ _) | (with_reducible refine Below.drew ?_) | (with_reducible refine below_regrown_up _ _ ?_ ?_) | (with_reducible refine Below.alloc ?_ ?_ _) | (with_reducible refine Below.setCell ?_ ?_ _) | (with_reducible refine below_up ?_ ?_ (by assumption)) | (with_reducible exact Nat.le_refl _) | omega | (simp; done) | (simp; omega)))
          have c03 : w3.cell? ⟨wr.heap.size, 0, none⟩ = some (.int .i64 bills[m].stay) := by rw [hw3]; go_simp
          have c13 : w3.cell? ⟨wr.heap.size, 1, none⟩ = some (.int .i64 bills[m].channel) := by rw [hw3]; go_simp
          have c23 : w3.cell? ⟨wr.heap.size, 2, none⟩ = some (.int .i64 bills[m].place) := by rw [hw3]; go_simp
          have c33 : w3.cell? ⟨wr.heap.size, 3, none⟩ = some (.int .i64 bills[m].kind) := by rw [hw3]; go_simp
          have c43 : w3.cell? ⟨wr.heap.size, 4, none⟩ = some (.int .i64 bills[m].frm) := by rw [hw3]; go_simp
          have c53 : w3.cell? ⟨wr.heap.size, 5, none⟩ = some (.int .i64 bills[m].til) := by rw [hw3]; go_simp
          have c63 : w3.cell? ⟨wr.heap.size, 6, none⟩ = some (.int .i64 bills[m].persons) := by rw [hw3]; go_simp
          have c73 : w3.cell? ⟨wr.heap.size, 7, none⟩ = some (.int .i64 bills[m].price) := by rw [hw3]; go_simp
          have c83 : w3.cell? ⟨wr.heap.size, 8, none⟩ = some (.int .i64 bills[m].keep) := by rw [hw3]; go_simp
          have l3 : wr.heap.size < w3.heap.size := by rw [hw3]; simp
          clear hw3 q0 q1 q2 q3 q4 q5 q6 q7 q8
          have Sw := s1.up hbw
          refine (HDUE.out _ (Sw.up K3)).mono ?_
          rintro e w4 ⟨rfl, b4⟩
          have c04 := (b4.cell (p := ⟨wr.heap.size, 0, none⟩) l3).trans c03
          have c14 := (b4.cell (p := ⟨wr.heap.size, 1, none⟩) l3).trans c13
          have c24 := (b4.cell (p := ⟨wr.heap.size, 2, none⟩) l3).trans c23
          have c34 := (b4.cell (p := ⟨wr.heap.size, 3, none⟩) l3).trans c33
          have c44 := (b4.cell (p := ⟨wr.heap.size, 4, none⟩) l3).trans c43
          have c54 := (b4.cell (p := ⟨wr.heap.size, 5, none⟩) l3).trans c53
          have c64 := (b4.cell (p := ⟨wr.heap.size, 6, none⟩) l3).trans c63
          have c74 := (b4.cell (p := ⟨wr.heap.size, 7, none⟩) l3).trans c73
          have c84 := (b4.cell (p := ⟨wr.heap.size, 8, none⟩) l3).trans c83
          have l4 : wr.heap.size < w4.heap.size := Nat.lt_of_lt_of_le l3 b4.size
          have K4 := below_up K3 K3.size b4
          clear c03 c13 c23 c33 c43 c53 c63 c73 c83
          go_wp2_with fail
          refine (HCLO.out _ (Sw.up K4)).mono ?_
          rintro e w5 ⟨rfl, b5⟩
          rw [hg]
          have c05 := (b5.cell (p := ⟨wr.heap.size, 0, none⟩) l4).trans c04
          have c15 := (b5.cell (p := ⟨wr.heap.size, 1, none⟩) l4).trans c14
          have c25 := (b5.cell (p := ⟨wr.heap.size, 2, none⟩) l4).trans c24
          have c35 := (b5.cell (p := ⟨wr.heap.size, 3, none⟩) l4).trans c34
          have c45 := (b5.cell (p := ⟨wr.heap.size, 4, none⟩) l4).trans c44
          have c55 := (b5.cell (p := ⟨wr.heap.size, 5, none⟩) l4).trans c54
          have c65 := (b5.cell (p := ⟨wr.heap.size, 6, none⟩) l4).trans c64
          have c75 := (b5.cell (p := ⟨wr.heap.size, 7, none⟩) l4).trans c74
          have c85 := (b5.cell (p := ⟨wr.heap.size, 8, none⟩) l4).trans c84
          have l5 : wr.heap.size < w5.heap.size := Nat.lt_of_lt_of_le l4 b5.size
          have K5 := below_up K4 K4.size b5
          clear c04 c14 c24 c34 c44 c54 c64 c74 c84
          go_wp2_with fail
          refine (tall_lit HALL.out At ct _ (hts.up (below_up hBw hBw.size K5)) (by omega)).mono ?_
          rintro e w6 ⟨⟨A6, c6', rfl⟩, b6⟩
          have c06 := (b6.cell (p := ⟨wr.heap.size, 0, none⟩) l5).trans c05
          have c16 := (b6.cell (p := ⟨wr.heap.size, 1, none⟩) l5).trans c15
          have c26 := (b6.cell (p := ⟨wr.heap.size, 2, none⟩) l5).trans c25
          have c36 := (b6.cell (p := ⟨wr.heap.size, 3, none⟩) l5).trans c35
          have c46 := (b6.cell (p := ⟨wr.heap.size, 4, none⟩) l5).trans c45
          have c56 := (b6.cell (p := ⟨wr.heap.size, 5, none⟩) l5).trans c55
          have c66 := (b6.cell (p := ⟨wr.heap.size, 6, none⟩) l5).trans c65
          have c76 := (b6.cell (p := ⟨wr.heap.size, 7, none⟩) l5).trans c75
          have c86 := (b6.cell (p := ⟨wr.heap.size, 8, none⟩) l5).trans c85
          have l6 : wr.heap.size < w6.heap.size := Nat.lt_of_lt_of_le l5 b6.size
          have K6 := below_up K5 K5.size b6
          clear c05 c15 c25 c35 c45 c55 c65 c75 c85
          go_wp2_with fail
          have hgr := regrown_cells w6 (B := w6.heap.size) (by omega)
          refine wp_region_quiet_below (by kernel_rfl) (by kernel_rfl) ?_
          repeat (first | (go_big_quiet_step ((go_at_call 15; exact quiet_b (HMV.out _ _ ((Sw.up K6).up (below_regrown _ _ _)))))) | (quiet_step ((go_at_call 15; exact quiet_b (HMV.out _ _ ((Sw.up K6).up (below_regrown _ _ _)))))))
          refine wpQuiet_nil ?_
          intro _ hw'
          obtain ⟨⟨dq, osq⟩, hw''⟩ := hw'
          subst hw''
          have hb7 := below_regrown w6 dq osq
          clear hgr
          generalize grow (redrawn w6 dq) osq = w7 at hb7 ⊢
          have hz7 := hb7.size
          (try simp only [World.size_alloc, World.size_setCell, World.size_drew, size_drewN', size_grow, size_redrawn] at hz7)
          obtain ⟨hc7, hf7⟩ := bcellB (B := w6.heap.size) hb7 (by first | omega | (simp only [World.size_alloc, World.size_setCell, World.size_drew, size_drewN', size_grow, size_redrawn]; omega))
          have b7 := hb7
          clear hc7 hf7
          have c07 := (b7.cell (p := ⟨wr.heap.size, 0, none⟩) l6).trans c06
          have c17 := (b7.cell (p := ⟨wr.heap.size, 1, none⟩) l6).trans c16
          have c27 := (b7.cell (p := ⟨wr.heap.size, 2, none⟩) l6).trans c26
          have c37 := (b7.cell (p := ⟨wr.heap.size, 3, none⟩) l6).trans c36
          have c47 := (b7.cell (p := ⟨wr.heap.size, 4, none⟩) l6).trans c46
          have c57 := (b7.cell (p := ⟨wr.heap.size, 5, none⟩) l6).trans c56
          have c67 := (b7.cell (p := ⟨wr.heap.size, 6, none⟩) l6).trans c66
          have c77 := (b7.cell (p := ⟨wr.heap.size, 7, none⟩) l6).trans c76
          have c87 := (b7.cell (p := ⟨wr.heap.size, 8, none⟩) l6).trans c86
          have l7 : wr.heap.size < w7.heap.size := Nat.lt_of_lt_of_le l6 b7.size
          have K7 := below_up K6 K6.size b7
          clear c06 c16 c26 c36 c46 c56 c66 c76 c86
          have HB7 := Lib.hid (And.intro (hsl.up (below_up hBw hBw.size K7)) (And.intro (s2.up (below_up hbw hbz K7)) (below_up hbw hbz K7)))
          go_wp2_with fail
          refine (HDID.out _ 3 (hsl.up (below_up hBw hBw.size K7)) (s2.up (below_up hbw hbz K7))).mono ?_
          rintro e w8 ⟨rfl, b8⟩
          rw [D3.out]
          have c08 := (b8.cell (p := ⟨wr.heap.size, 0, none⟩) l7).trans c07
          have c18 := (b8.cell (p := ⟨wr.heap.size, 1, none⟩) l7).trans c17
          have c28 := (b8.cell (p := ⟨wr.heap.size, 2, none⟩) l7).trans c27
          have c38 := (b8.cell (p := ⟨wr.heap.size, 3, none⟩) l7).trans c37
          have c48 := (b8.cell (p := ⟨wr.heap.size, 4, none⟩) l7).trans c47
          have c58 := (b8.cell (p := ⟨wr.heap.size, 5, none⟩) l7).trans c57
          have c68 := (b8.cell (p := ⟨wr.heap.size, 6, none⟩) l7).trans c67
          have c78 := (b8.cell (p := ⟨wr.heap.size, 7, none⟩) l7).trans c77
          have c88 := (b8.cell (p := ⟨wr.heap.size, 8, none⟩) l7).trans c87
          have l8 : wr.heap.size < w8.heap.size := Nat.lt_of_lt_of_le l7 b8.size
          have K8 := below_up K7 K7.size b8
          clear c07 c17 c27 c37 c47 c57 c67 c77 c87
          go_wp2_with fail
          refine (HDID.out _ 6 (hsl.up (below_up hBw hBw.size K8)) (s2.up (below_up hbw hbz K8))).mono ?_
          rintro e w9 ⟨rfl, b9⟩
          rw [D6.out]
          have c09 := (b9.cell (p := ⟨wr.heap.size, 0, none⟩) l8).trans c08
          have c19 := (b9.cell (p := ⟨wr.heap.size, 1, none⟩) l8).trans c18
          have c29 := (b9.cell (p := ⟨wr.heap.size, 2, none⟩) l8).trans c28
          have c39 := (b9.cell (p := ⟨wr.heap.size, 3, none⟩) l8).trans c38
          have c49 := (b9.cell (p := ⟨wr.heap.size, 4, none⟩) l8).trans c48
          have c59 := (b9.cell (p := ⟨wr.heap.size, 5, none⟩) l8).trans c58
          have c69 := (b9.cell (p := ⟨wr.heap.size, 6, none⟩) l8).trans c68
          have c79 := (b9.cell (p := ⟨wr.heap.size, 7, none⟩) l8).trans c78
          have c89 := (b9.cell (p := ⟨wr.heap.size, 8, none⟩) l8).trans c88
          have l9 : wr.heap.size < w9.heap.size := Nat.lt_of_lt_of_le l8 b9.size
          have K9 := below_up K8 K8.size b9
          clear c08 c18 c28 c38 c48 c58 c68 c78 c88
          go_wp2_with fail
          refine (HDID.out _ 5 (hsl.up (below_up hBw hBw.size K9)) (s2.up (below_up hbw hbz K9))).mono ?_
          rintro e w10 ⟨rfl, b10⟩
          rw [D5.out]
          have c010 := (b10.cell (p := ⟨wr.heap.size, 0, none⟩) l9).trans c09
          have c110 := (b10.cell (p := ⟨wr.heap.size, 1, none⟩) l9).trans c19
          have c210 := (b10.cell (p := ⟨wr.heap.size, 2, none⟩) l9).trans c29
          have c310 := (b10.cell (p := ⟨wr.heap.size, 3, none⟩) l9).trans c39
          have c410 := (b10.cell (p := ⟨wr.heap.size, 4, none⟩) l9).trans c49
          have c510 := (b10.cell (p := ⟨wr.heap.size, 5, none⟩) l9).trans c59
          have c610 := (b10.cell (p := ⟨wr.heap.size, 6, none⟩) l9).trans c69
          have c710 := (b10.cell (p := ⟨wr.heap.size, 7, none⟩) l9).trans c79
          have c810 := (b10.cell (p := ⟨wr.heap.size, 8, none⟩) l9).trans c89
          have l10 : wr.heap.size < w10.heap.size := Nat.lt_of_lt_of_le l9 b10.size
          have K10 := below_up K9 K9.size b10
          clear c09 c19 c29 c39 c49 c59 c69 c79 c89
          go_wp2_with fail
          go_roundw
          case rel => exact ⟨m + 1, by omega, by go_num, rfl, below_up hbw hbz K10⟩
          case measure => simp [intOf]; omega
    · obtain rfl : m = bills.length := by omega
      go_wp2_with fail
      go_ret
      exact ⟨ret_bool (by simp), below_up B2 B2.size hbw⟩
end Go.Proofs.Ytmlhoojcdidgkaa
