/-
  The law 'FolioLeft': the walk.
-/
import Derived.Test.YtmlhoojcdidgkaaFoDid
import Derived.Test.YtmlhoojcdidgkaaFoLedgers
import Derived.Test.YtmlhoojcdidgkaaDep2
namespace Go.Proofs.Ytmlhoojcdidgkaa
set_option linter.unusedSimpArgs false
set_option linter.unusedVariables false
open Go.RowKit
open Go.Sort (grow size_grow)


set_option maxHeartbeats 4000000
set_option maxRecDepth 100000
/-- What the law says of one bill. -/
inductive LeftR (V : Env) (l : List Deed) (errs : List Int) (es : List Entry) (b : Bill) : Prop
  | gone (n fee : Int) (r : List Int) (d5 : didR l errs 5 b.stay = true) (h1 : allT V.ts b = (r, n, 0)) (h2 : oneR V.p V.d b = (fee, 0)) (h3 : movedR es (300 + b.place) b.stay = -b.price - fee) (h4 : movedR es (700 + b.channel) b.stay = fee) (h5 : movedR es (400 + b.place) b.stay = -n) (h6 : 0 ≤ fee ∧ fee ≤ 1000000000 ∧ 0 ≤ n ∧ n ≤ 1000000000) : LeftR V l errs es b
  | canc (d5 : didR l errs 5 b.stay = false) (d3 : didR l errs 3 b.stay = true) (h1 : movedR es (300 + b.place) b.stay ≤ 0) (h2 : -b.keep ≤ movedR es (300 + b.place) b.stay) (h4 : movedR es (700 + b.channel) b.stay = 0) (h5 : movedR es (400 + b.place) b.stay = 0) : LeftR V l errs es b
  | none_ (d5 : didR l errs 5 b.stay = false) (d3 : didR l errs 3 b.stay = false) (h3 : movedR es (300 + b.place) b.stay = 0) (h4 : movedR es (700 + b.channel) b.stay = 0) (h5 : movedR es (400 + b.place) b.stay = 0) : LeftR V l errs es b
theorem left_of {V : Env} {bills : List Bill} {l : List Deed} (hV : EnvOk V) (hb : billsOk bills = true) {m : Nat} (hm : m < bills.length) : LeftR V l (runAll V bills l).2 (runAll V bills l).1.es bills[m] := by
  have hR := run_all hV hb l
  obtain ⟨a, ha, hab⟩ := hR.at_ hm
  have hA := hR.acct a ha
  have hD := hR.did a ha
  have hO := hR.ok.ac a ha
  have hbo := hO.b
  have hone := oneR_ok hV.p hbo
  have hcm := comm_bd hV.p (Bill.ok_iff.1 hbo).2.2.2.2.2.2.1.1
  have hpr := (Bill.ok_iff.1 hbo).2.2.2.2.2.2.1
  obtain ⟨dl, dc, dw⟩ := hD
  obtain ⟨pos, pre, left, canc, walk⟩ := hA
  rw [← hab]
  have hst := hO.st
  by_cases h3 : a.st = 3
  · obtain ⟨n, c, l1, l2, l3, l4, _, _⟩ := left h3
    obtain ⟨r, hr⟩ := comes_all l1
    have hbd := comes_bd hbo l1
    have hf : feeA V a.b = comm V.p V.d a.b.price := by unfold feeA; rw [hone]
    rw [hf] at l2 l3
    exact .gone n _ r (by rw [dl, decide_eq_true h3]) hr hone l2 l3 l4 (by omega)
  · by_cases h4 : a.st = 4
    · obtain ⟨_, c2, c3, c4, c5⟩ := canc h4
      exact .canc (by rw [dl, decide_eq_false h3]) (by rw [dc, decide_eq_true h4]) c2 c3 c4 c5
    · have hz : movedR (runAll V bills l).1.es (300 + a.b.place) a.b.stay = 0 ∧ movedR (runAll V bills l).1.es (700 + a.b.channel) a.b.stay = 0 ∧ movedR (runAll V bills l).1.es (400 + a.b.place) a.b.stay = 0 := by
        by_cases h5 : a.st = 5
        · exact (walk h5).2
        · obtain ⟨_, _, _, _, _, p6, p7, p8⟩ := pre (by omega)
          exact ⟨p6, p7, p8⟩
      exact .none_ (by rw [dl, decide_eq_false h3]) (by rw [dc, decide_eq_false h4]) hz.1 hz.2.1 hz.2.2
theorem law_left (V : Env) (bills : List Bill) (l : List Deed) (A At Al : Option Addr) (c ct cl : Nat) (w : World) (hs : SlBill w A bills) (hts : SlTax w At V.ts) (hsl : SlDeed w Al l) (hst : ∀ x ∈ l, -9223372036854775808 ≤ x.stay ∧ x.stay ≤ 9223372036854775807) :
    Calls Try.prog 5 #[.slice A bills.length c, .slice At V.ts.length ct, .agg #[.int .i64 V.p, .int .i64 V.d], V.k.v, .slice Al l.length cl] w fun e w' => e = .returned (.bool true) ∧ Below w.heap.size w w' := by
  cases hfew : fewB bills.length V.ts.length l.length
  · go_enter Try.func5, Try.ntmps5
    go_wp2_with fail
    refine name_calls (fun w0 hw0 => ?_)
    have b0 : Below w.heap.size w w0 := by rw [hw0]; exact (by repeat' (first | (with_reducible exact Below.refl _ _) | (with_reducible assumption) | (with_reducible refine below_drewN ?_ _) | (with_reducible refine Below.drew ?_) | (with_reducible refine below_regrown_up _ _ ?_ ?_) | (with_reducible refine Below.alloc ?_ ?_ _) | (with_reducible refine Below.setCell ?_ ?_ _) | (with_reducible refine below_up ?_ ?_ (by assumption)) | (with_reducible exact Nat.le_refl _) | omega | (simp; done) | (simp; omega)))
    have l0 : w.heap.size + 1 < w0.heap.size := by rw [hw0]; simp
    have HX : Hid (∀ W, Below w0.heap.size w0 W → ((W.cell? ⟨w.heap.size, 0, none⟩ = some (.int .i64 V.p) ∧ W.cell? ⟨w.heap.size, 1, none⟩ = some (.int .i64 V.d)) ∧ (W.cell? ⟨w.heap.size + 1, 0, none⟩ = some (.int .i64 V.k.fx) ∧ W.cell? ⟨w.heap.size + 1, 1, none⟩ = some (.int .i64 V.k.n) ∧ W.cell? ⟨w.heap.size + 1, 2, none⟩ = some (.int .i64 V.k.d) ∧ W.cell? ⟨w.heap.size + 1, 3, none⟩ = some (.int .i64 V.k.most)) ∧ w.heap.size < W.heap.size ∧ w.heap.size + 1 < W.heap.size)) := Lib.hid (fun W hb => by
      have e : ∀ b o, b < w0.heap.size → W.cell? ⟨b, o, none⟩ = w0.cell? ⟨b, o, none⟩ := fun b o h => hb.cell (p := ⟨b, o, none⟩) h
      have hz := hb.size
      refine ⟨⟨?_, ?_⟩, ⟨?_, ?_, ?_, ?_⟩, by omega, by omega⟩
      all_goals
        rw [e _ _ (by omega), hw0]
        go_simp)
    clear hw0
    refine (head32_any _).mono ?_
    rintro e w1 ⟨rfl, b1⟩
    have B1 : Below w.heap.size w w1 := below_up b0 b0.size b1
    go_wp2_with fail
    refine (few32_any _ _ _ _ _ _ _ _ _ _).mono ?_
    rintro e w1' ⟨rfl, rfl⟩
    rw [hfew]
    go_wp2_with fail
    go_ret
    exact ⟨ret_bool (by simp), B1⟩
  obtain ⟨f1, f2, f3⟩ := fewB_iff.1 hfew
  have HST := Lib.hid hst
  clear hst
  cases hok : runOk V bills
  · have hr : runR V bills l = ([], [], 1) := by unfold runR; rw [if_neg (by omega), hok]; rfl
    have HR := Lib.hid hr
    clear hr
    go_enter Try.func5, Try.ntmps5
    go_wp2_with fail
    refine name_calls (fun w0 hw0 => ?_)
    have b0 : Below w.heap.size w w0 := by rw [hw0]; exact (by repeat' (first | (with_reducible exact Below.refl _ _) | (with_reducible assumption) | (with_reducible refine below_drewN ?_ _) | (with_reducible refine Below.drew ?_) | (with_reducible refine below_regrown_up _ _ ?_ ?_) | (with_reducible refine Below.alloc ?_ ?_ _) | (with_reducible refine Below.setCell ?_ ?_ _) | (with_reducible refine below_up ?_ ?_ (by assumption)) | (with_reducible exact Nat.le_refl _) | omega | (simp; done) | (simp; omega)))
    have l0 : w.heap.size + 1 < w0.heap.size := by rw [hw0]; simp
    have HX : Hid (∀ W, Below w0.heap.size w0 W → ((W.cell? ⟨w.heap.size, 0, none⟩ = some (.int .i64 V.p) ∧ W.cell? ⟨w.heap.size, 1, none⟩ = some (.int .i64 V.d)) ∧ (W.cell? ⟨w.heap.size + 1, 0, none⟩ = some (.int .i64 V.k.fx) ∧ W.cell? ⟨w.heap.size + 1, 1, none⟩ = some (.int .i64 V.k.n) ∧ W.cell? ⟨w.heap.size + 1, 2, none⟩ = some (.int .i64 V.k.d) ∧ W.cell? ⟨w.heap.size + 1, 3, none⟩ = some (.int .i64 V.k.most)) ∧ w.heap.size < W.heap.size ∧ w.heap.size + 1 < W.heap.size)) := Lib.hid (fun W hb => by
      have e : ∀ b o, b < w0.heap.size → W.cell? ⟨b, o, none⟩ = w0.cell? ⟨b, o, none⟩ := fun b o h => hb.cell (p := ⟨b, o, none⟩) h
      have hz := hb.size
      refine ⟨⟨?_, ?_⟩, ⟨?_, ?_, ?_, ?_⟩, by omega, by omega⟩
      all_goals
        rw [e _ _ (by omega), hw0]
        go_simp)
    clear hw0
    refine (head32_any _).mono ?_
    rintro e w1 ⟨rfl, b1⟩
    have B1 : Below w.heap.size w w1 := below_up b0 b0.size b1
    go_wp2_with fail
    refine (few32_any _ _ _ _ _ _ _ _ _ _).mono ?_
    rintro e w1' ⟨rfl, rfl⟩
    rw [hfew]
    obtain ⟨⟨y0, y1⟩, ⟨x0, x1, x2, x3⟩, ly, lx⟩ := HX.out w1 b1
    go_wp2_with fail
    refine (frun_lit (V := V) HR.out A At Al c ct cl w1 (hs.up B1) (hts.up B1) (hsl.up B1) (by omega) (by omega) (by omega) HST.out).mono ?_
    rintro e w2 ⟨⟨A1, c1, A2, c2, rfl, s1, s2⟩, b2⟩
    have B2 := below_up B1 B1.size b2
    have b02 := below_up b1 b1.size b2
    clear x0 x1 x2 x3 y0 y1 ly lx
    go_wp2_with fail
    go_ret
    exact ⟨ret_bool (by simp), B2⟩
  have hr : runR V bills l = ((runAll V bills l).1.es, (runAll V bills l).2, 0) := by unfold runR; rw [if_neg (by omega), hok]; rfl
  have hrl := run_len (V := V) (bills := bills) l
  have hled := run_led hok (l := l) (by omega)
  obtain ⟨hV, hbo, _, _⟩ := runOk_iff.1 hok
  have HLEFT := Lib.hid (fun m (hm : m < bills.length) => left_of (l := l) hV hbo hm)
  have HBK := Lib.hid (billsOk_iff.1 hbo).1
  clear hV hbo hok
  generalize (runAll V bills l).1.es = es at *
  generalize (runAll V bills l).2 = errs at *
  have HR := Lib.hid hr
  have HOK := Lib.hid (ledOk_iff.1 hled).2.1
  have hel := (ledOk_iff.1 hled).1
  have HRL := Lib.hid hrl
  have hneq : ((errs.length : Int) != (l.length : Int)) = false := by rw [bne_eq_false_iff_eq]; omega
  have hneq2 : (errs.length != l.length) = false := by rw [bne_eq_false_iff_eq]; omega
  clear hr hrl hled
  go_enter Try.func5, Try.ntmps5
  go_wp2_with fail
  refine name_calls (fun w0 hw0 => ?_)
  have b0 : Below w.heap.size w w0 := by rw [hw0]; exact (by repeat' (first | (with_reducible exact Below.refl _ _) | (with_reducible assumption) | (with_reducible refine below_drewN ?_ _) | (with_reducible refine Below.drew ?_) | (with_reducible refine below_regrown_up _ _ ?_ ?_) | (with_reducible refine Below.alloc ?_ ?_ _) | (with_reducible refine Below.setCell ?_ ?_ _) | (with_reducible refine below_up ?_ ?_ (by assumption)) | (with_reducible exact Nat.le_refl _) | omega | (simp; done) | (simp; omega)))
  have l0 : w.heap.size + 1 < w0.heap.size := by rw [hw0]; simp
  have HX : Hid (∀ W, Below w0.heap.size w0 W → ((W.cell? ⟨w.heap.size, 0, none⟩ = some (.int .i64 V.p) ∧ W.cell? ⟨w.heap.size, 1, none⟩ = some (.int .i64 V.d)) ∧ (W.cell? ⟨w.heap.size + 1, 0, none⟩ = some (.int .i64 V.k.fx) ∧ W.cell? ⟨w.heap.size + 1, 1, none⟩ = some (.int .i64 V.k.n) ∧ W.cell? ⟨w.heap.size + 1, 2, none⟩ = some (.int .i64 V.k.d) ∧ W.cell? ⟨w.heap.size + 1, 3, none⟩ = some (.int .i64 V.k.most)) ∧ w.heap.size < W.heap.size ∧ w.heap.size + 1 < W.heap.size)) := Lib.hid (fun W hb => by
    have e : ∀ b o, b < w0.heap.size → W.cell? ⟨b, o, none⟩ = w0.cell? ⟨b, o, none⟩ := fun b o h => hb.cell (p := ⟨b, o, none⟩) h
    have hz := hb.size
    refine ⟨⟨?_, ?_⟩, ⟨?_, ?_, ?_, ?_⟩, by omega, by omega⟩
    all_goals
      rw [e _ _ (by omega), hw0]
      go_simp)
  clear hw0
  refine (head32_any _).mono ?_
  rintro e w1 ⟨rfl, b1⟩
  have B1 : Below w.heap.size w w1 := below_up b0 b0.size b1
  go_wp2_with fail
  refine (few32_any _ _ _ _ _ _ _ _ _ _).mono ?_
  rintro e w1' ⟨rfl, rfl⟩
  rw [hfew]
  obtain ⟨⟨y0, y1⟩, ⟨x0, x1, x2, x3⟩, ly, lx⟩ := HX.out w1 b1
  go_wp2_with fail
  refine (frun_lit (V := V) HR.out A At Al c ct cl w1 (hs.up B1) (hts.up B1) (hsl.up B1) (by omega) (by omega) (by omega) HST.out).mono ?_
  rintro e w2 ⟨⟨A1, c1, A2, c2, rfl, s1, s2⟩, b2⟩
  have B2 := below_up B1 B1.size b2
  have b02 := below_up b1 b1.size b2
  clear x0 x1 x2 x3 y0 y1 ly lx
  go_wp2_with fail
  go_loopw [11, 52] (fun up i wr => ∃ m : Nat, m ≤ bills.length ∧ i = .int .i64 m ∧ up = .bool true ∧ Below w2.heap.size w2 wr) (fun _ i _ => bills.length - (intOf i).toNat)
  case atStart => exact ⟨0, by omega, rfl, rfl, Below.refl _ _⟩
  case round =>
    obtain ⟨m, hm, rfl, rfl, hbw⟩ := hrel
    have hbz := hbw.size
    by_cases hlt : m < bills.length
    · have hx1 : (0 : Int) ≤ (m : Int) := by omega
      have hx2 : (m : Int) < (bills.length : Int) := by omega
      have hBw := below_up B2 B2.size hbw
      obtain ⟨bb, off, rfl, hbl, hcell⟩ := (hs.up hBw).at_ hlt
      have q0 := hcell 0 _ rfl
      have q1 := hcell 1 _ rfl
      have q2 := hcell 2 _ rfl
      have q3 := hcell 3 _ rfl
      have q4 := hcell 4 _ rfl
      have q5 := hcell 5 _ rfl
      have q6 := hcell 6 _ rfl
      have q7 := hcell 7 _ rfl
      have q8 := hcell 8 _ rfl
      rw [Nat.add_zero] at q0
      clear hcell
      have hbk := Bill.ok_iff.1 (HBK.out _ (List.getElem_mem hlt))
      have hsy := hbk.2.2.2.1
      have hch := hbk.2.2.2.2.1
      have hpl := hbk.2.2.2.2.2.1
      have hpr := hbk.2.2.2.2.2.2.1
      have hkp := hbk.2.2.2.2.2.2.2
      clear hbk
      have hw1 : IntKind.i64.wrap (700 + bills[m].channel) = 700 + bills[m].channel := IntWalk.i64_in _ (by omega)
      have hw2 : IntKind.i64.wrap (400 + bills[m].place) = 400 + bills[m].place := IntWalk.i64_in _ (by omega)
      have HL := HLEFT.out m hlt
      have HMV : Hid (∀ W acc, SlEnt W A1 es → Calls Try.prog 15 #[.slice A1 es.length c1, .int .i64 acc, .int .i64 bills[m].stay] W fun e w' => e = .returned (.int .i64 (movedR es acc bills[m].stay)) ∧ Below W.heap.size W w') := Lib.hid (fun W acc hW => rmov_any es A1 c1 acc bills[m].stay W hW (by omega) HOK.out (by omega))
      have HDID : Hid (∀ W k, SlDeed W Al l → SlInt W A2 errs → Calls Try.prog 17 #[.slice Al l.length cl, .slice A2 errs.length c2, .int .i64 k, .int .i64 bills[m].stay] W fun e w' => e = .returned (.bool (didR l errs k bills[m].stay)) ∧ Below W.heap.size W w') := Lib.hid (fun W k h1 h2 => did_any l errs Al A2 cl c2 k bills[m].stay W h1 h2 HRL.out (by omega))
      rcases HL with ⟨n, fee, r, d5, g1, g2, g3, g4, g5, g6⟩ | ⟨d5, d3, g1, g2, g4, g5⟩ | ⟨d5, d3, g3, g4, g5⟩
      · have D5 := Lib.hid d5
        have G1 := Lib.hid g1
        have G2 := Lib.hid g2
        have e1 : (movedR es (300 + bills[m].place) bills[m].stay == -bills[m].price - fee) = true := by rw [beq_iff_eq]; exact g3
        have e2 : (movedR es (700 + bills[m].channel) bills[m].stay == fee) = true := by rw [beq_iff_eq]; exact g4
        have e3 : (movedR es (400 + bills[m].place) bills[m].stay == -n) = true := by rw [beq_iff_eq]; exact g5
        clear d5 g1 g2 g3 g4 g5
        go_wp2_with fail
        refine name_world (fun w3 hw3 => ?_)
        have b3 : Below wr.heap.size wr w3 := by rw [hw3]; exact (by repeat' (first | (with_reducible exact Below.refl _ _) | (with_reducible assumption) | (with_reducible refine below_drewN ?_ _) | (with_reducible refine Below.drew ?_) | (with_reducible refine below_regrown_up _ _ ?_ ?_) | (with_reducible refine Below.alloc ?_ ?_ _) | (with_reducible refine Below.setCell ?_ ?_ _) | (with_reducible refine below_up ?_ ?_ (by assumption)) | (with_reducible exact Nat.le_refl _) | omega | (simp; done) | (simp; omega)))
        have k0 : w3.cell? ⟨wr.heap.size, 0, none⟩ = some (.int .i64 bills[m].stay) := by rw [hw3]; go_simp
        have k1 : w3.cell? ⟨wr.heap.size, 1, none⟩ = some (.int .i64 bills[m].channel) := by rw [hw3]; go_simp
        have k2 : w3.cell? ⟨wr.heap.size, 2, none⟩ = some (.int .i64 bills[m].place) := by rw [hw3]; go_simp
        have k3 : w3.cell? ⟨wr.heap.size, 3, none⟩ = some (.int .i64 bills[m].kind) := by rw [hw3]; go_simp
        have k4 : w3.cell? ⟨wr.heap.size, 4, none⟩ = some (.int .i64 bills[m].frm) := by rw [hw3]; go_simp
        have k5 : w3.cell? ⟨wr.heap.size, 5, none⟩ = some (.int .i64 bills[m].til) := by rw [hw3]; go_simp
        have k6 : w3.cell? ⟨wr.heap.size, 6, none⟩ = some (.int .i64 bills[m].persons) := by rw [hw3]; go_simp
        have k7 : w3.cell? ⟨wr.heap.size, 7, none⟩ = some (.int .i64 bills[m].price) := by rw [hw3]; go_simp
        have k8 : w3.cell? ⟨wr.heap.size, 8, none⟩ = some (.int .i64 bills[m].keep) := by rw [hw3]; go_simp
        have l3 : wr.heap.size < w3.heap.size := by rw [hw3]; simp
        clear hw3 q0 q1 q2 q3 q4 q5 q6 q7 q8
        have S3 := (s1.up hbw).up b3
        have hgr := regrown_cells w3 (B := w3.heap.size) (by omega)
        refine wp_region_quiet_below (by kernel_rfl) (by kernel_rfl) ?_
        repeat (first | (go_big_quiet_step ((first | (go_at_call 16; exact quiet_b (rhouse_any bills[m] _ hpl.1 hpl.2)) | (go_at_call 15; exact quiet_b (HMV.out _ _ (S3.up (below_regrown _ _ _))))))) | (quiet_step ((first | (go_at_call 16; exact quiet_b (rhouse_any bills[m] _ hpl.1 hpl.2)) | (go_at_call 15; exact quiet_b (HMV.out _ _ (S3.up (below_regrown _ _ _))))))))
        refine wpQuiet_nil ?_
        intro _ hw'
        obtain ⟨⟨dq, osq⟩, hw''⟩ := hw'
        subst hw''
        have hb4 := below_regrown w3 dq osq
        clear hgr
        generalize grow (redrawn w3 dq) osq = w4 at hb4 ⊢
        have hz4 := hb4.size
        (try simp only [World.size_alloc, World.size_setCell, World.size_drew, size_drewN', size_grow, size_redrawn] at hz4)
        obtain ⟨hc4, hf4⟩ := bcellB (B := w3.heap.size) hb4 (by first | omega | (simp only [World.size_alloc, World.size_setCell, World.size_drew, size_drewN', size_grow, size_redrawn]; omega))
        have b4 := hb4
        have j0 := (b4.cell (p := ⟨wr.heap.size, 0, none⟩) l3).trans k0
        have j1 := (b4.cell (p := ⟨wr.heap.size, 1, none⟩) l3).trans k1
        have j2 := (b4.cell (p := ⟨wr.heap.size, 2, none⟩) l3).trans k2
        have j3 := (b4.cell (p := ⟨wr.heap.size, 3, none⟩) l3).trans k3
        have j4 := (b4.cell (p := ⟨wr.heap.size, 4, none⟩) l3).trans k4
        have j5 := (b4.cell (p := ⟨wr.heap.size, 5, none⟩) l3).trans k5
        have j6 := (b4.cell (p := ⟨wr.heap.size, 6, none⟩) l3).trans k6
        have j7 := (b4.cell (p := ⟨wr.heap.size, 7, none⟩) l3).trans k7
        have j8 := (b4.cell (p := ⟨wr.heap.size, 8, none⟩) l3).trans k8
        have l4 : wr.heap.size < w4.heap.size := by have := b4.size; omega
        have HB4 := Lib.hid (And.intro j0 (And.intro j1 (And.intro j2 (And.intro j3 (And.intro j4 (And.intro j5 (And.intro j6 (And.intro j7 j8))))))))
        have b2w := below_up (below_up hbw hbz b3) (by have := b3.size; omega) b4
        have bW4 := below_up B2 B2.size b2w
        clear k0 k1 k2 k3 k4 k5 k6 k7 k8 hc4 hf4 S3
        go_wp2_with fail
        refine (HDID.out _ 5 (hsl.up bW4) (s2.up b2w)).mono ?_
        rintro e w5 ⟨rfl, b5⟩
        rw [D5.out]
        have i0 : ∀ o v, w4.cell? ⟨wr.heap.size, o, none⟩ = some v → w5.cell? ⟨wr.heap.size, o, none⟩ = some v := fun o v h => (b5.cell (p := ⟨wr.heap.size, o, none⟩) l4).trans h
        have c0 := i0 _ _ j0
        have c1' := i0 _ _ j1
        have c2' := i0 _ _ j2
        have c3 := i0 _ _ j3
        have c4 := i0 _ _ j4
        have c5 := i0 _ _ j5
        have c6 := i0 _ _ j6
        have c7 := i0 _ _ j7
        have c8 := i0 _ _ j8
        have l5 : wr.heap.size < w5.heap.size := by have := b5.size; omega
        have bW5 := below_up bW4 bW4.size b5
        have b2w5 := below_up b2w (by have := b2w.size; omega) b5
        clear i0 j0 j1 j2 j3 j4 j5 j6 j7 j8
        go_wp2_with fail
        refine (tall_lit G1.out At ct _ (hts.up bW5) (by omega)).mono ?_
        rintro e w6 ⟨⟨A6, c6', rfl⟩, b6⟩
        have i0 : ∀ o v, w5.cell? ⟨wr.heap.size, o, none⟩ = some v → w6.cell? ⟨wr.heap.size, o, none⟩ = some v := fun o v h => (b6.cell (p := ⟨wr.heap.size, o, none⟩) l5).trans h
        have j0 := i0 _ _ c0
        have j1 := i0 _ _ c1'
        have j2 := i0 _ _ c2'
        have j3 := i0 _ _ c3
        have j4 := i0 _ _ c4
        have j5 := i0 _ _ c5
        have j6 := i0 _ _ c6
        have j7 := i0 _ _ c7
        have j8 := i0 _ _ c8
        have l6 : wr.heap.size < w6.heap.size := by have := b6.size; omega
        have bW6 := below_up bW5 bW5.size b6
        have b2w6 := below_up b2w5 (by have := b2w5.size; omega) b6
        obtain ⟨⟨y0, y1⟩, _, ly, lx⟩ := HX.out w6 (below_up b02 b02.size b2w6)
        clear i0 c0 c1' c2' c3 c4 c5 c6 c7 c8
        go_wp2_with fail
        refine (cone_any G2.out _).mono ?_
        rintro e w7 ⟨rfl, b7⟩
        have p7 := (b7.cell (p := ⟨wr.heap.size, 7, none⟩) l6).trans j7
        have l7 : wr.heap.size < w7.heap.size := by have := b7.size; omega
        clear j0 j1 j2 j3 j4 j5 j6 j7 j8 y0 y1 ly lx
        go_wp2_with fail
        go_roundw
        case rel => exact ⟨m + 1, by omega, by go_num, rfl, below_up b2w6 (by have := b2w6.size; omega) b7⟩
        case measure => simp [intOf]; omega
      · have D5 := Lib.hid d5
        have D3 := Lib.hid d3
        have e2 : (movedR es (700 + bills[m].channel) bills[m].stay == 0) = true := by rw [beq_iff_eq]; exact g4
        have e3 : (movedR es (400 + bills[m].place) bills[m].stay == 0) = true := by rw [beq_iff_eq]; exact g5
        clear d5 d3 g4 g5
        go_wp2_with fail
        refine name_world (fun w3 hw3 => ?_)
        have b3 : Below wr.heap.size wr w3 := by rw [hw3]; exact (by repeat' (first | (with_reducible exact Below.refl _ _) | (with_reducible assumption) | (with_reducible refine below_drewN ?_ _) | (with_reducible refine Below.drew ?_) | (with_reducible refine below_regrown_up _ _ ?_ ?_) | (with_reducible refine Below.alloc ?_ ?_ _) | (with_reducible refine Below.setCell ?_ ?_ _) | (with_reducible refine below_up ?_ ?_ (by assumption)) | (with_reducible exact Nat.le_refl _) | omega | (simp; done) | (simp; omega)))
        have k0 : w3.cell? ⟨wr.heap.size, 0, none⟩ = some (.int .i64 bills[m].stay) := by rw [hw3]; go_simp
        have k1 : w3.cell? ⟨wr.heap.size, 1, none⟩ = some (.int .i64 bills[m].channel) := by rw [hw3]; go_simp
        have k2 : w3.cell? ⟨wr.heap.size, 2, none⟩ = some (.int .i64 bills[m].place) := by rw [hw3]; go_simp
        have k3 : w3.cell? ⟨wr.heap.size, 3, none⟩ = some (.int .i64 bills[m].kind) := by rw [hw3]; go_simp
        have k4 : w3.cell? ⟨wr.heap.size, 4, none⟩ = some (.int .i64 bills[m].frm) := by rw [hw3]; go_simp
        have k5 : w3.cell? ⟨wr.heap.size, 5, none⟩ = some (.int .i64 bills[m].til) := by rw [hw3]; go_simp
        have k6 : w3.cell? ⟨wr.heap.size, 6, none⟩ = some (.int .i64 bills[m].persons) := by rw [hw3]; go_simp
        have k7 : w3.cell? ⟨wr.heap.size, 7, none⟩ = some (.int .i64 bills[m].price) := by rw [hw3]; go_simp
        have k8 : w3.cell? ⟨wr.heap.size, 8, none⟩ = some (.int .i64 bills[m].keep) := by rw [hw3]; go_simp
        have l3 : wr.heap.size < w3.heap.size := by rw [hw3]; simp
        clear hw3 q0 q1 q2 q3 q4 q5 q6 q7 q8
        have S3 := (s1.up hbw).up b3
        have hgr := regrown_cells w3 (B := w3.heap.size) (by omega)
        refine wp_region_quiet_below (by kernel_rfl) (by kernel_rfl) ?_
        repeat (first | (go_big_quiet_step ((first | (go_at_call 16; exact quiet_b (rhouse_any bills[m] _ hpl.1 hpl.2)) | (go_at_call 15; exact quiet_b (HMV.out _ _ (S3.up (below_regrown _ _ _))))))) | (quiet_step ((first | (go_at_call 16; exact quiet_b (rhouse_any bills[m] _ hpl.1 hpl.2)) | (go_at_call 15; exact quiet_b (HMV.out _ _ (S3.up (below_regrown _ _ _))))))))
        refine wpQuiet_nil ?_
        intro _ hw'
        obtain ⟨⟨dq, osq⟩, hw''⟩ := hw'
        subst hw''
        have hb4 := below_regrown w3 dq osq
        clear hgr
        generalize grow (redrawn w3 dq) osq = w4 at hb4 ⊢
        have hz4 := hb4.size
        (try simp only [World.size_alloc, World.size_setCell, World.size_drew, size_drewN', size_grow, size_redrawn] at hz4)
        obtain ⟨hc4, hf4⟩ := bcellB (B := w3.heap.size) hb4 (by first | omega | (simp only [World.size_alloc, World.size_setCell, World.size_drew, size_drewN', size_grow, size_redrawn]; omega))
        have b4 := hb4
        have j0 := (b4.cell (p := ⟨wr.heap.size, 0, none⟩) l3).trans k0
        have j1 := (b4.cell (p := ⟨wr.heap.size, 1, none⟩) l3).trans k1
        have j2 := (b4.cell (p := ⟨wr.heap.size, 2, none⟩) l3).trans k2
        have j3 := (b4.cell (p := ⟨wr.heap.size, 3, none⟩) l3).trans k3
        have j4 := (b4.cell (p := ⟨wr.heap.size, 4, none⟩) l3).trans k4
        have j5 := (b4.cell (p := ⟨wr.heap.size, 5, none⟩) l3).trans k5
        have j6 := (b4.cell (p := ⟨wr.heap.size, 6, none⟩) l3).trans k6
        have j7 := (b4.cell (p := ⟨wr.heap.size, 7, none⟩) l3).trans k7
        have j8 := (b4.cell (p := ⟨wr.heap.size, 8, none⟩) l3).trans k8
        have l4 : wr.heap.size < w4.heap.size := by have := b4.size; omega
        have HB4 := Lib.hid (And.intro j0 (And.intro j1 (And.intro j2 (And.intro j3 (And.intro j4 (And.intro j5 (And.intro j6 (And.intro j7 j8))))))))
        have b2w := below_up (below_up hbw hbz b3) (by have := b3.size; omega) b4
        have bW4 := below_up B2 B2.size b2w
        clear k0 k1 k2 k3 k4 k5 k6 k7 k8 hc4 hf4 S3
        go_wp2_with fail
        refine (HDID.out _ 5 (hsl.up bW4) (s2.up b2w)).mono ?_
        rintro e w5 ⟨rfl, b5⟩
        rw [D5.out]
        have c0 := (b5.cell (p := ⟨wr.heap.size, 0, none⟩) l4).trans j0
        have c5 := (b5.cell (p := ⟨wr.heap.size, 5, none⟩) l4).trans j5
        have c8 := (b5.cell (p := ⟨wr.heap.size, 8, none⟩) l4).trans j8
        have l5 : wr.heap.size < w5.heap.size := by have := b5.size; omega
        have bW5 := below_up bW4 bW4.size b5
        have b2w5 := below_up b2w (by have := b2w.size; omega) b5
        clear j0 j1 j2 j3 j4 j5 j6 j7 j8
        go_wp2_with fail
        refine (HDID.out _ 3 (hsl.up bW5) (s2.up b2w5)).mono ?_
        rintro e w6 ⟨rfl, b6⟩
        rw [D3.out]
        have p8 := (b6.cell (p := ⟨wr.heap.size, 8, none⟩) l5).trans c8
        have l6 : wr.heap.size < w6.heap.size := by have := b6.size; omega
        have b2w6 := below_up b2w5 (by have := b2w5.size; omega) b6
        clear c0 c5 c8
        go_wp2_with fail
        go_roundw
        case rel => exact ⟨m + 1, by omega, by go_num, rfl, b2w6⟩
        case measure => simp [intOf]; omega
      · have D5 := Lib.hid d5
        have D3 := Lib.hid d3
        have e1 : (movedR es (300 + bills[m].place) bills[m].stay == 0) = true := by rw [beq_iff_eq]; exact g3
        have e2 : (movedR es (700 + bills[m].channel) bills[m].stay == 0) = true := by rw [beq_iff_eq]; exact g4
        have e3 : (movedR es (400 + bills[m].place) bills[m].stay == 0) = true := by rw [beq_iff_eq]; exact g5
        clear d5 d3 g3 g4 g5
        go_wp2_with fail
        refine name_world (fun w3 hw3 => ?_)
        have b3 : Below wr.heap.size wr w3 := by rw [hw3]; exact (by repeat' (first | (with_reducible exact Below.refl _ _) | (with_reducible assumption) | (with_reducible refine below_drewN ?_ _) | (with_reducible refine Below.drew ?_) | (with_reducible refine below_regrown_up _ _ ?_ ?_) | (with_reducible refine Below.alloc ?_ ?_ _) | (with_reducible refine Below.setCell ?_ ?_ _) | (with_reducible refine below_up ?_ ?_ (by assumption)) | (with_reducible exact Nat.le_refl _) | omega | (simp; done) | (simp; omega)))
        have k0 : w3.cell? ⟨wr.heap.size, 0, none⟩ = some (.int .i64 bills[m].stay) := by rw [hw3]; go_simp
        have k1 : w3.cell? ⟨wr.heap.size, 1, none⟩ = some (.int .i64 bills[m].channel) := by rw [hw3]; go_simp
        have k2 : w3.cell? ⟨wr.heap.size, 2, none⟩ = some (.int .i64 bills[m].place) := by rw [hw3]; go_simp
        have k3 : w3.cell? ⟨wr.heap.size, 3, none⟩ = some (.int .i64 bills[m].kind) := by rw [hw3]; go_simp
        have k4 : w3.cell? ⟨wr.heap.size, 4, none⟩ = some (.int .i64 bills[m].frm) := by rw [hw3]; go_simp
        have k5 : w3.cell? ⟨wr.heap.size, 5, none⟩ = some (.int .i64 bills[m].til) := by rw [hw3]; go_simp
        have k6 : w3.cell? ⟨wr.heap.size, 6, none⟩ = some (.int .i64 bills[m].persons) := by rw [hw3]; go_simp
        have k7 : w3.cell? ⟨wr.heap.size, 7, none⟩ = some (.int .i64 bills[m].price) := by rw [hw3]; go_simp
        have k8 : w3.cell? ⟨wr.heap.size, 8, none⟩ = some (.int .i64 bills[m].keep) := by rw [hw3]; go_simp
        have l3 : wr.heap.size < w3.heap.size := by rw [hw3]; simp
        clear hw3 q0 q1 q2 q3 q4 q5 q6 q7 q8
        have S3 := (s1.up hbw).up b3
        have hgr := regrown_cells w3 (B := w3.heap.size) (by omega)
        refine wp_region_quiet_below (by kernel_rfl) (by kernel_rfl) ?_
        repeat (first | (go_big_quiet_step ((first | (go_at_call 16; exact quiet_b (rhouse_any bills[m] _ hpl.1 hpl.2)) | (go_at_call 15; exact quiet_b (HMV.out _ _ (S3.up (below_regrown _ _ _))))))) | (quiet_step ((first | (go_at_call 16; exact quiet_b (rhouse_any bills[m] _ hpl.1 hpl.2)) | (go_at_call 15; exact quiet_b (HMV.out _ _ (S3.up (below_regrown _ _ _))))))))
        refine wpQuiet_nil ?_
        intro _ hw'
        obtain ⟨⟨dq, osq⟩, hw''⟩ := hw'
        subst hw''
        have hb4 := below_regrown w3 dq osq
        clear hgr
        generalize grow (redrawn w3 dq) osq = w4 at hb4 ⊢
        have hz4 := hb4.size
        (try simp only [World.size_alloc, World.size_setCell, World.size_drew, size_drewN', size_grow, size_redrawn] at hz4)
        obtain ⟨hc4, hf4⟩ := bcellB (B := w3.heap.size) hb4 (by first | omega | (simp only [World.size_alloc, World.size_setCell, World.size_drew, size_drewN', size_grow, size_redrawn]; omega))
        have b4 := hb4
        have j0 := (b4.cell (p := ⟨wr.heap.size, 0, none⟩) l3).trans k0
        have j1 := (b4.cell (p := ⟨wr.heap.size, 1, none⟩) l3).trans k1
        have j2 := (b4.cell (p := ⟨wr.heap.size, 2, none⟩) l3).trans k2
        have j3 := (b4.cell (p := ⟨wr.heap.size, 3, none⟩) l3).trans k3
        have j4 := (b4.cell (p := ⟨wr.heap.size, 4, none⟩) l3).trans k4
        have j5 := (b4.cell (p := ⟨wr.heap.size, 5, none⟩) l3).trans k5
        have j6 := (b4.cell (p := ⟨wr.heap.size, 6, none⟩) l3).trans k6
        have j7 := (b4.cell (p := ⟨wr.heap.size, 7, none⟩) l3).trans k7
        have j8 := (b4.cell (p := ⟨wr.heap.size, 8, none⟩) l3).trans k8
        have l4 : wr.heap.size < w4.heap.size := by have := b4.size; omega
        have HB4 := Lib.hid (And.intro j0 (And.intro j1 (And.intro j2 (And.intro j3 (And.intro j4 (And.intro j5 (And.intro j6 (And.intro j7 j8))))))))
        have b2w := below_up (below_up hbw hbz b3) (by have := b3.size; omega) b4
        have bW4 := below_up B2 B2.size b2w
        clear k0 k1 k2 k3 k4 k5 k6 k7 k8 hc4 hf4 S3
        go_wp2_with fail
        refine (HDID.out _ 5 (hsl.up bW4) (s2.up b2w)).mono ?_
        rintro e w5 ⟨rfl, b5⟩
        rw [D5.out]
        have c0 := (b5.cell (p := ⟨wr.heap.size, 0, none⟩) l4).trans j0
        have l5 : wr.heap.size < w5.heap.size := by have := b5.size; omega
        have bW5 := below_up bW4 bW4.size b5
        have b2w5 := below_up b2w (by have := b2w.size; omega) b5
        clear j0 j1 j2 j3 j4 j5 j6 j7 j8
        go_wp2_with fail
        refine (HDID.out _ 3 (hsl.up bW5) (s2.up b2w5)).mono ?_
        rintro e w6 ⟨rfl, b6⟩
        rw [D3.out]
        have b2w6 := below_up b2w5 (by have := b2w5.size; omega) b6
        clear c0
        go_wp2_with fail
        go_roundw
        case rel => exact ⟨m + 1, by omega, by go_num, rfl, b2w6⟩
        case measure => simp [intOf]; omega
    · obtain rfl : m = bills.length := by omega
      go_wp2_with fail
      go_ret
      exact ⟨ret_bool (by simp), below_up B2 B2.size hbw⟩
end Go.Proofs.Ytmlhoojcdidgkaa
