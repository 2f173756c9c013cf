/-
  Package commission: the reference's word on statements and ledgers.
-/
import Derived.Test.YthnncojbckifnaaCom8
namespace Go.Proofs.Ythnncojbckifnaa
set_option linter.unusedSimpArgs false
set_option linter.unusedVariables false
open Go.RowKit Go.Maps
open Go.Sort (grow size_grow)

set_option maxHeartbeats 4000000
set_option maxRecDepth 100000
def eOk (own : List Bill) (es : List Entry) (acc : Int) (e : Entry) : Prop := (e.debit ≠ acc ∧ e.credit ≠ acc) ∨ e.ref ∈ stays own ∨ movedR es acc e.ref = 0
instance (own : List Bill) (es : List Entry) (acc : Int) (e : Entry) : Decidable (eOk own es acc e) := by unfold eOk; infer_instance
def movedL (own : List Bill) (es : List Entry) (acc : Int) : List Int := own.map fun b => movedR es acc b.stay
def agrees (want st : List Int) (own : List Bill) (es : List Entry) (acc : Int) : Bool := decide (want = st ∧ movedL own es acc = want ∧ ∀ e ∈ es, eOk own es acc e)
theorem agrees_iff {want st : List Int} {own : List Bill} {es : List Entry} {acc : Int} : agrees want st own es acc = true ↔ want = st ∧ movedL own es acc = want ∧ ∀ e ∈ es, eOk own es acc e := by unfold agrees; rw [decide_eq_true_eq]
theorem agrees_no {want st : List Int} {own : List Bill} {es : List Entry} {acc : Int} (h : ¬ (want = st ∧ movedL own es acc = want ∧ ∀ e ∈ es, eOk own es acc e)) : agrees want st own es acc = false := by
  cases ha : agrees want st own es acc
  · rfl
  · exact absurd (agrees_iff.1 ha) h
def agreesR (p d : Int) (l : List Bill) (ch : Int) (st : List Int) (es : List Entry) : Bool × Int :=
  if (stmtR p d l ch).2.2 ≠ 0 then (false, (stmtR p d l ch).2.2) else if ledOk es = false then (false, 1) else (agrees (stmtR p d l ch).1 st (ofCh l ch) es (700 + ch), 0)
theorem stmtR_cases (p d : Int) (l : List Bill) (ch : Int) : (∃ er, stmtR p d l ch = ([], 0, er) ∧ (er = 1 ∨ er = 2 ∨ er = 3)) ∨
    (l.length ≤ 3000 ∧ partOk p d = true ∧ billsOk l = true ∧ inB ch 0 29 = true ∧ (comms p d (ofCh l ch)).sum ≤ 1000000000 ∧ stmtR p d l ch = (comms p d (ofCh l ch), (comms p d (ofCh l ch)).sum, 0)) := by
  by_cases h0 : 3000 < l.length
  · exact .inl ⟨2, stmtR_many h0, by omega⟩
  · cases h1 : (!partOk p d || !billsOk l || !inB ch 0 29)
    · have h2 : (partOk p d = true ∧ billsOk l = true) ∧ inB ch 0 29 = true := by simpa using h1
      by_cases h3 : 1000000000 < (comms p d (ofCh l ch)).sum
      · exact .inl ⟨3, stmtR_far (by omega) h2.1.1 h2.1.2 h2.2 h3, by omega⟩
      · exact .inr ⟨by omega, h2.1.1, h2.1.2, h2.2, by omega, stmtR_ok (by omega) h2.1.1 h2.1.2 h2.2 h3⟩
    · exact .inl ⟨1, stmtR_no (by omega) h1, by omega⟩
def RetBE (r : Bool × Int) (e : Ending) : Prop := e = .returned (.tuple #[.bool r.1, .int .i64 r.2])
theorem movedL_at {own : List Bill} {es : List Entry} {acc : Int} {m : Nat} (h : m < own.length) : (movedL own es acc)[m]'(by unfold movedL; simpa using h) = movedR es acc own[m].stay := by unfold movedL; rw [List.getElem_map]
theorem stays_snoc {own : List Bill} {k : Nat} (h : k < own.length) (r : Int) : decide (r ∈ stays (own.take (k + 1))) = (decide (r ∈ stays (own.take k)) || (own[k].stay == r)) := by
  rw [stays_take h, Bool.eq_iff_iff, decide_eq_true_eq, Bool.or_eq_true, decide_eq_true_eq, beq_iff_eq, List.mem_append, List.mem_singleton]
  constructor
  · rintro (h | h)
    · exact .inl h
    · exact .inr h.symm
  · rintro (h | h)
    · exact .inl h
    · exact .inr h.symm
theorem ragrees_any (p d : Int) (l : List Bill) (A : Option Addr) (c : Nat) (ch : Int) (st : List Int) (B : Option Addr) (cB : Nat) (es : List Entry) (E : Option Addr) (cE : Nat) (w : World)
    (hs : SlBill w A l) (hl0 : l.length ≤ maxLen) (c0 : -9223372036854775808 ≤ ch) (c1 : ch ≤ 9223372036854775807) (hst : SlInt w B st) (hst0 : st.length ≤ maxLen) (hse : SlEnt w E es) (hse0 : es.length ≤ 140737488355328) :
    Calls Try.prog 30 #[.agg #[.int .i64 p, .int .i64 d], .slice A l.length c, .int .i64 ch, .slice B st.length cB, .slice E es.length cE] w fun e w' => RetBE (agreesR p d l ch st es) e ∧ Below w.heap.size w w' := by
  rcases stmtR_cases p d l ch with ⟨er, hr, her⟩ | ⟨h0, h1, h2, h3, h4, hr⟩
  · have hne : (er != 0) = true := by rw [bne_iff_ne]; omega
    have hR : agreesR p d l ch st es = (false, er) := by unfold agreesR; rw [hr, if_pos (by simp only; omega)]
    have HR := Lib.hid hr
    have HA := Lib.hid hR
    clear hr hR her
    go_enter Try.func30, Try.ntmps30
    go_wp2_with fail
    refine (rstmt_lit HR.out A c _ (hs.up (by repeat' (first | (with_reducible exact Below.refl _ _) | (with_reducible assumption) | (with_reducible refine below_drewN ?_ _) | (with_reducible refine Below.drew ?_) | (with_reducible refine below_regrown_up _ _ ?_ ?_) | (with_reducible refine Below.alloc ?_ ?_ _) | (with_reducible refine Below.setCell ?_ ?_ _) | (with_reducible refine below_up ?_ ?_ (by assumption)) | (with_reducible exact Nat.le_refl _) | omega | (simp; done) | (simp; omega)))) hl0 c0 c1).mono ?_
    rintro e w1 ⟨⟨A1, c1', rfl, hs1⟩, hb1⟩
    have hz1 := hb1.size
    simp only [World.size_alloc] at hz1
    go_wp2_with fail
    go_ret2
    refine ⟨?_, ?_⟩
    · rw [HA.out]; rfl
    · repeat' (first
        | (with_reducible exact Below.refl _ _)
        | (with_reducible assumption)
        | (with_reducible refine below_drewN ?_ _)
        | (with_reducible refine Below.drew ?_)
        | (with_reducible refine below_regrown_up _ _ ?_ ?_)
        | (with_reducible refine Below.alloc ?_ ?_ _)
        | (with_reducible refine Below.setCell ?_ ?_ _)
        | (with_reducible refine below_up ?_ ?_ (by assumption))
        | (with_reducible exact Nat.le_refl _)
        | omega
        | (simp; done)
        | (simp; omega))
  · cases hk : ledOk es
    · have hR : agreesR p d l ch st es = (false, 1) := by unfold agreesR; rw [hr, hk]; simp
      have HR := Lib.hid hr
      have HA := Lib.hid hR
      clear hr hR
      go_enter Try.func30, Try.ntmps30
      go_wp2_with fail
      refine (rstmt_lit HR.out A c _ (hs.up (by repeat' (first | (with_reducible exact Below.refl _ _) | (with_reducible assumption) | (with_reducible refine below_drewN ?_ _) | (with_reducible refine Below.drew ?_) | (with_reducible refine below_regrown_up _ _ ?_ ?_) | (with_reducible refine Below.alloc ?_ ?_ _) | (with_reducible refine Below.setCell ?_ ?_ _) | (with_reducible refine below_up ?_ ?_ (by assumption)) | (with_reducible exact Nat.le_refl _) | omega | (simp; done) | (simp; omega)))) hl0 c0 c1).mono ?_
      rintro e w1 ⟨⟨A1, c1', rfl, hs1⟩, hb1⟩
      have hz1 := hb1.size
      simp only [World.size_alloc] at hz1
      go_wp2_with fail
      refine (rlvalid_any es E cE _ (hse.up (by repeat' (first | (with_reducible exact Below.refl _ _) | (with_reducible assumption) | (with_reducible refine below_drewN ?_ _) | (with_reducible refine Below.drew ?_) | (with_reducible refine below_regrown_up _ _ ?_ ?_) | (with_reducible refine Below.alloc ?_ ?_ _) | (with_reducible refine Below.setCell ?_ ?_ _) | (with_reducible refine below_up ?_ ?_ (by assumption)) | (with_reducible exact Nat.le_refl _) | omega | (simp; done) | (simp; omega)))) hse0).mono ?_
      rintro e w2 ⟨rfl, hb2⟩
      rw [hk]
      go_wp2_with fail
      go_ret2
      refine ⟨?_, ?_⟩
      · rw [HA.out]; rfl
      · repeat' (first
          | (with_reducible exact Below.refl _ _)
          | (with_reducible assumption)
          | (with_reducible refine below_drewN ?_ _)
          | (with_reducible refine Below.drew ?_)
          | (with_reducible refine below_regrown_up _ _ ?_ ?_)
          | (with_reducible refine Below.alloc ?_ ?_ _)
          | (with_reducible refine Below.setCell ?_ ?_ _)
          | (with_reducible refine below_up ?_ ?_ (by assumption))
          | (with_reducible exact Nat.le_refl _)
          | omega
          | (simp; done)
          | (simp; omega))
    · obtain ⟨g0, g1⟩ := inB_iff.1 h3
      have hR : agreesR p d l ch st es = (agrees (comms p d (ofCh l ch)) st (ofCh l ch) es (700 + ch), 0) := by unfold agreesR; rw [hr, hk]; simp
      have hwl : (comms p d (ofCh l ch)).length = (ofCh l ch).length := by unfold comms; simp
      have hol := ofCh_len l ch
      have HR := Lib.hid hr
      clear hr
      generalize comms p d (ofCh l ch) = want at *
      by_cases hlen : want.length = st.length
      · have hb : ((want.length : Int) != (st.length : Int)) = false := by rw [bne_eq_false_iff_eq]; omega
        have HA := Lib.hid hR
        have HLEN := Lib.hid hlen
        have HWL := Lib.hid hwl
        have hel := (ledOk_iff.1 hk).1
        have hww : IntKind.i64.wrap (700 + ch) = 700 + ch := IntWalk.i64_in _ (by omega)
        clear hR hwl hlen
        go_enter Try.func30, Try.ntmps30
        go_wp2_with fail
        refine (rstmt_lit HR.out A c _ (hs.up (by repeat' (first | (with_reducible exact Below.refl _ _) | (with_reducible assumption) | (with_reducible refine below_drewN ?_ _) | (with_reducible refine Below.drew ?_) | (with_reducible refine below_regrown_up _ _ ?_ ?_) | (with_reducible refine Below.alloc ?_ ?_ _) | (with_reducible refine Below.setCell ?_ ?_ _) | (with_reducible refine below_up ?_ ?_ (by assumption)) | (with_reducible exact Nat.le_refl _) | omega | (simp; done) | (simp; omega)))) hl0 c0 c1).mono ?_
        rintro e w1 ⟨⟨A1, c1', rfl, hs1⟩, hb1⟩
        have hz1 := hb1.size
        simp only [World.size_alloc] at hz1
        have hB1 : Below w.heap.size w w1 := (by repeat' (first | (with_reducible exact Below.refl _ _) | (with_reducible assumption) | (with_reducible refine below_drewN ?_ _) | (with_reducible refine Below.drew ?_) | (with_reducible refine below_regrown_up _ _ ?_ ?_) | (with_reducible refine Below.alloc ?_ ?_ _) | (with_reducible refine Below.setCell ?_ ?_ _) | (with_reducible refine below_up ?_ ?_ (by assumption)) | (with_reducible exact Nat.le_refl _) | omega | (simp; done) | (simp; omega)))
        go_wp2_with fail
        refine (rlvalid_any es E cE _ (hse.up hB1) hse0).mono ?_
        rintro e w2 ⟨rfl, hb2⟩
        rw [hk]
        have hB2 := below_up hB1 hB1.size hb2
        go_wp2_with fail
        refine (rOf_any l A c ch _ (hs.up hB2) (by omega)).mono ?_
        rintro e w3 ⟨⟨v, rfl, hown⟩, hb3⟩
        have hB3 := below_up hB2 hB2.size hb3
        have hs13 := (hs1.up hb2).up hb3
        generalize ofCh l ch = own at *
        obtain ⟨A3, c3, rfl, hc3, _, hs3⟩ := hown.sl bill_len
        go_wp2_with fail
        generalize 700 + ch = acc at *
        have hz3 := hB3.size
        go_loopw [17] (fun i wr => ∃ m : Nat, m ≤ want.length ∧ i = .int .i64 m ∧ Hid (want.take m = st.take m ∧ (movedL own es acc).take m = want.take m) ∧ Below w3.heap.size w3 wr) (fun i _ => want.length - (intOf i).toNat)
        case atStart => exact ⟨0, by omega, rfl, Lib.hid ⟨rfl, rfl⟩, Below.refl _ _⟩
        case round =>
          obtain ⟨m, hm, rfl, HM, hbw⟩ := hrel
          have hbz := hbw.size
          have hB := below_up hB3 hz3 hbw
          by_cases hlt : m < want.length
          · have hx1 : (0 : Int) ≤ (m : Int) := by omega
            have hx2 : (m : Int) < (want.length : Int) := by omega
            have hlt2 : m < st.length := by have := HLEN.out; omega
            have hlt3 : m < own.length := by have := HWL.out; omega
            have hx3 : (m : Int) < (st.length : Int) := by omega
            have hx4 : (m : Int) < (own.length : Int) := by omega
            obtain ⟨b1, o1, rfl, hbl1, hcell1⟩ := (hs13.up hbw).at_ hlt
            obtain ⟨b2, o2, rfl, hbl2, hcell2⟩ := (hst.up hB).at_ hlt2
            obtain ⟨b3, o3, rfl, hbl3, hcell3⟩ := (hs3.up hbw).at_ hlt3
            have p1 := hcell1 0 _ rfl
            have p2 := hcell2 0 _ rfl
            have p3 := hcell3 0 _ rfl
            rw [Nat.add_zero, Nat.mul_one] at p1 p2
            rw [Nat.add_zero] at p3
            clear hcell1 hcell2 hcell3
            by_cases hd : want[m] = st[m]
            · have hdb : (want[m] != st[m]) = false := by simpa using hd
              have HD := Lib.hid hd
              clear hd
              by_cases hv : movedR es acc own[m].stay = want[m]
              · have hvb : (movedR es acc own[m].stay != want[m]) = false := by simpa using hv
                have HV := Lib.hid hv
                clear hv
                go_wp2_with fail
                have hgr := regrown_cells wr (B := wr.heap.size) (by omega)
                refine wp_region_quiet_below (by kernel_rfl) (by kernel_rfl) ?_
                repeat (quiet_step ((go_at_call 58; exact quiet_b (rmoved_any es E cE acc own[m].stay _ (hse.up (below_regrown_up _ _ hB (by omega))) hk))))
                refine wpQuiet_nil ?_
                intro _ hw'
                obtain ⟨⟨dq, osq⟩, hw''⟩ := hw'
                subst hw''
                have hb4 := below_regrown wr dq osq
                clear hgr
                generalize grow (redrawn wr dq) osq = w4 at hb4 ⊢
                have hz4 := hb4.size
                (try simp only [World.size_alloc, World.size_setCell, World.size_drew, size_drewN', size_grow, size_redrawn] at hz4)
                obtain ⟨hc4, hf4⟩ := bcellB (B := wr.heap.size) hb4 (by first | omega | (simp only [World.size_alloc, World.size_setCell, World.size_drew, size_drewN', size_grow, size_redrawn]; omega))
                go_wp2_with fail
                go_roundw
                case rel =>
                  refine ⟨m + 1, by omega, by go_num, Lib.hid ⟨?_, ?_⟩, below_up hbw hbz hb4⟩
                  · rw [List.take_succ_eq_append_getElem hlt, List.take_succ_eq_append_getElem hlt2, HM.out.1, HD.out]
                  · rw [List.take_succ_eq_append_getElem hlt, List.take_succ_eq_append_getElem (by unfold movedL; simpa using hlt3), HM.out.2, movedL_at hlt3, HV.out]
                case measure => simp [intOf]; omega
              · have hvb : (movedR es acc own[m].stay != want[m]) = true := by simpa using hv
                have HV := Lib.hid hv
                clear hv
                go_wp2_with fail
                have hgr := regrown_cells wr (B := wr.heap.size) (by omega)
                refine wp_region_quiet_below (by kernel_rfl) (by kernel_rfl) ?_
                repeat (quiet_step ((go_at_call 58; exact quiet_b (rmoved_any es E cE acc own[m].stay _ (hse.up (below_regrown_up _ _ hB (by omega))) hk))))
                refine wpQuiet_nil ?_
                intro _ hw'
                obtain ⟨⟨dq, osq⟩, hw''⟩ := hw'
                subst hw''
                have hb4 := below_regrown wr dq osq
                clear hgr
                generalize grow (redrawn wr dq) osq = w4 at hb4 ⊢
                have hz4 := hb4.size
                (try simp only [World.size_alloc, World.size_setCell, World.size_drew, size_drewN', size_grow, size_redrawn] at hz4)
                obtain ⟨hc4, hf4⟩ := bcellB (B := wr.heap.size) hb4 (by first | omega | (simp only [World.size_alloc, World.size_setCell, World.size_drew, size_drewN', size_grow, size_redrawn]; omega))
                go_wp2_with fail
                go_ret2
                refine ⟨?_, below_up hB hB.size hb4⟩
                rw [HA.out, agrees_no (fun h => HV.out ?_)]
                · rfl
                · rw [← movedL_at hlt3]
                  exact List.getElem_of_eq h.2.1 _
            · have hdb : (want[m] != st[m]) = true := by simpa using hd
              have HD := Lib.hid hd
              clear hd
              go_wp2_with fail
              go_quiet (fail)
              go_wp2_with fail
              go_ret2
              refine ⟨?_, ?_⟩
              · rw [HA.out, agrees_no (fun h => HD.out (List.getElem_of_eq h.1 _))]
                rfl
              · repeat' (first
                  | (with_reducible exact Below.refl _ _)
                  | (with_reducible assumption)
                  | (with_reducible refine below_drewN ?_ _)
                  | (with_reducible refine Below.drew ?_)
                  | (with_reducible refine below_regrown_up _ _ ?_ ?_)
                  | (with_reducible refine Below.alloc ?_ ?_ _)
                  | (with_reducible refine Below.setCell ?_ ?_ _)
                  | (with_reducible refine below_up ?_ ?_ (by assumption))
                  | (with_reducible exact Nat.le_refl _)
                  | omega
                  | (simp; done)
                  | (simp; omega))
          · obtain rfl : m = want.length := by omega
            obtain ⟨wx, hwx⟩ : ∃ wx, wx = wr := ⟨_, rfl⟩
            subst hwx
            go_wp2_with fail
            have HM1 := HM.out
            rw [List.take_of_length_le (Nat.le_refl _), List.take_of_length_le (by have := HLEN.out; omega), List.take_of_length_le (by unfold movedL; rw [List.length_map]; have := HWL.out; omega)] at HM1
            have HM2 := Lib.hid HM1
            clear HM1
            go_loopw [18] (fun i wr => ∃ m : Nat, m ≤ es.length ∧ i = .int .i64 m ∧ Hid (∀ j (h : j < es.length), j < m → eOk own es acc es[j]) ∧ Below wx.heap.size wx wr) (fun i _ => es.length - (intOf i).toNat)
            case atStart => exact ⟨0, by omega, rfl, Lib.hid (fun j _ h => absurd h (by omega)), Below.refl _ _⟩
            case round =>
              obtain ⟨m, hm2, rfl, HE, hbw2⟩ := hrel
              have hbz2 := hbw2.size
              have hBw := below_up hB (by omega) hbw2
              have hsow := (hs3.up hbw).up hbw2
              by_cases hlt2 : m < es.length
              · have hx1 : (0 : Int) ≤ (m : Int) := by omega
                have hx2 : (m : Int) < (es.length : Int) := by omega
                have hse1 := hse
                obtain ⟨b1, o1, rfl, hbl1, hcell⟩ := (hse.up hBw).at_ hlt2
                have q0 := hcell 0 _ rfl
                have q1 := hcell 1 _ rfl
                have q2 := hcell 2 _ rfl
                have q3 := hcell 3 _ rfl
                have q4 := hcell 4 _ rfl
                rw [Nat.add_zero] at q0
                clear hcell
                by_cases t : es[m].debit ≠ acc ∧ es[m].credit ≠ acc
                · have s1 : (es[m].debit != acc) = true := by simpa using t.1
                  have s2 : (es[m].credit != acc) = true := by simpa using t.2
                  have HX : Hid (eOk own es acc es[m]) := Lib.hid (.inl t)
                  clear t
                  go_wp2_with fail
                  go_roundw
                  case rel =>
                    refine ⟨m + 1, by omega, by go_num, Lib.hid (fun j h hj => ?_), (by repeat' (first | (with_reducible exact Below.refl _ _) | (with_reducible assumption) | (with_reducible refine below_drewN ?_ _) | (with_reducible refine Below.drew ?_) | (with_reducible refine below_regrown_up _ _ ?_ ?_) | (with_reducible refine Below.alloc ?_ ?_ _) | (with_reducible refine Below.setCell ?_ ?_ _) | (with_reducible refine below_up ?_ ?_ (by assumption)) | (with_reducible exact Nat.le_refl _) | omega | (simp; done) | (simp; omega)))⟩
                    by_cases e : j = m
                    · subst e; exact HX.out
                    · exact HE.out j h (by omega)
                  case measure => simp [intOf]; omega
                · have ht : es[m].debit = acc ∨ (es[m].debit ≠ acc ∧ es[m].credit = acc) := by
                    by_cases h1 : es[m].debit = acc
                    · exact .inl h1
                    · exact .inr ⟨h1, by
                        by_cases h2 : es[m].credit = acc
                        · exact h2
                        · exact absurd ⟨h1, h2⟩ t⟩
                  have HTN := Lib.hid t
                  clear t
                  have hcond : ((es[m].debit != acc) = false) ∨ ((es[m].debit != acc) = true ∧ (es[m].credit != acc) = false) := by
                    rcases ht with h | ⟨h1, h2⟩
                    · exact .inl (by simpa using h)
                    · exact .inr ⟨by simpa using h1, by simpa using h2⟩
                  clear ht
                  rcases hcond with s1 | ⟨s1, s2⟩
                  all_goals
                    go_wp2_with fail
                    go_loopw [19, 20] (fun kn i wr => ∃ k : Nat, k ≤ own.length ∧ i = .int .i64 k ∧ kn = .bool (decide (es[m].ref ∈ stays (own.take k))) ∧ Below wx.heap.size wx wr) (fun _ i _ => own.length - (intOf i).toNat)
                    case atStart => exact ⟨0, by omega, rfl, by simp [stays], hbw2⟩
                    case round =>
                      obtain ⟨k, hk2, rfl, rfl, hbw3⟩ := hrel
                      have hbz3 := hbw3.size
                      have hBw3 := below_up hB (by omega) hbw3
                      by_cases hlt3 : k < own.length
                      · have hx3 : (0 : Int) ≤ (k : Int) := by omega
                        have hx4 : (k : Int) < (own.length : Int) := by omega
                        obtain ⟨b3, o3, rfl, hbl3, hcell3⟩ := ((hs3.up hbw).up hbw3).at_ hlt3
                        have p0 := hcell3 0 _ rfl
                        rw [Nat.add_zero] at p0
                        clear hcell3
                        obtain ⟨hbl4, hcell⟩ := (hse1.up hBw3).cells hlt2
                        have p4 := hcell 4 _ rfl
                        clear hcell q0 q1 q2 q3 q4
                        have hsn := stays_snoc hlt3 es[m].ref
                        have HSN := Lib.hid hsn
                        clear hsn
                        cases hkq : (own[k].stay == es[m].ref)
                        · cases hkn : decide (es[m].ref ∈ stays (own.take k))
                          · go_wp2_with fail
                            go_quiet (fail)
                            go_wp2_with fail
                            go_roundw
                            case rel => exact ⟨k + 1, by omega, by go_num, by rw [HSN.out]; simp [hkn, hkq], (by repeat' (first | (with_reducible exact Below.refl _ _) | (with_reducible assumption) | (with_reducible refine below_drewN ?_ _) | (with_reducible refine Below.drew ?_) | (with_reducible refine below_regrown_up _ _ ?_ ?_) | (with_reducible refine Below.alloc ?_ ?_ _) | (with_reducible refine Below.setCell ?_ ?_ _) | (with_reducible refine below_up ?_ ?_ (by assumption)) | (with_reducible exact Nat.le_refl _) | omega | (simp; done) | (simp; omega)))⟩
                            case measure => simp [intOf]; omega
                          · go_wp2_with fail
                            go_quiet (fail)
                            go_wp2_with fail
                            go_roundw
                            case rel => exact ⟨k + 1, by omega, by go_num, by rw [HSN.out]; simp [hkn, hkq], (by repeat' (first | (with_reducible exact Below.refl _ _) | (with_reducible assumption) | (with_reducible refine below_drewN ?_ _) | (with_reducible refine Below.drew ?_) | (with_reducible refine below_regrown_up _ _ ?_ ?_) | (with_reducible refine Below.alloc ?_ ?_ _) | (with_reducible refine Below.setCell ?_ ?_ _) | (with_reducible refine below_up ?_ ?_ (by assumption)) | (with_reducible exact Nat.le_refl _) | omega | (simp; done) | (simp; omega)))⟩
                            case measure => simp [intOf]; omega
                        · cases hkn : decide (es[m].ref ∈ stays (own.take k))
                          · go_wp2_with fail
                            go_quiet (fail)
                            go_wp2_with fail
                            go_roundw
                            case rel => exact ⟨k + 1, by omega, by go_num, by rw [HSN.out]; simp [hkn, hkq], (by repeat' (first | (with_reducible exact Below.refl _ _) | (with_reducible assumption) | (with_reducible refine below_drewN ?_ _) | (with_reducible refine Below.drew ?_) | (with_reducible refine below_regrown_up _ _ ?_ ?_) | (with_reducible refine Below.alloc ?_ ?_ _) | (with_reducible refine Below.setCell ?_ ?_ _) | (with_reducible refine below_up ?_ ?_ (by assumption)) | (with_reducible exact Nat.le_refl _) | omega | (simp; done) | (simp; omega)))⟩
                            case measure => simp [intOf]; omega
                          · go_wp2_with fail
                            go_quiet (fail)
                            go_wp2_with fail
                            go_roundw
                            case rel => exact ⟨k + 1, by omega, by go_num, by rw [HSN.out]; simp [hkn, hkq], (by repeat' (first | (with_reducible exact Below.refl _ _) | (with_reducible assumption) | (with_reducible refine below_drewN ?_ _) | (with_reducible refine Below.drew ?_) | (with_reducible refine below_regrown_up _ _ ?_ ?_) | (with_reducible refine Below.alloc ?_ ?_ _) | (with_reducible refine Below.setCell ?_ ?_ _) | (with_reducible refine below_up ?_ ?_ (by assumption)) | (with_reducible exact Nat.le_refl _) | omega | (simp; done) | (simp; omega)))⟩
                            case measure => simp [intOf]; omega
                      · obtain rfl : k = own.length := by omega
                        rw [List.take_of_length_le (Nat.le_refl _)]
                        cases hkn : decide (es[m].ref ∈ stays own)
                        · obtain ⟨hbl4, hcell⟩ := (hse1.up hBw3).cells hlt2
                          have p4 := hcell 4 _ rfl
                          clear hcell q0 q1 q2 q3 q4
                          have hnin : es[m].ref ∉ stays own := by simpa using hkn
                          have HNI := Lib.hid hnin
                          clear hnin
                          by_cases hz : movedR es acc es[m].ref = 0
                          · have HX : Hid (eOk own es acc es[m]) := Lib.hid (.inr (.inr hz))
                            have hzb : (movedR es acc es[m].ref != 0) = false := by simpa using hz
                            clear hz
                            go_wp2_with fail
                            refine (rmoved_any es _ cE acc es[m].ref _ (hse1.up hBw3) hk).mono ?_
                            rintro e w9 ⟨rfl, hb9⟩
                            have hbw9 := below_up hbw3 hbz3 hb9
                            go_wp2_with fail
                            go_roundw
                            case rel =>
                              refine ⟨m + 1, by omega, by go_num, Lib.hid (fun j h hj => ?_), (by repeat' (first | (with_reducible exact Below.refl _ _) | (with_reducible assumption) | (with_reducible refine below_drewN ?_ _) | (with_reducible refine Below.drew ?_) | (with_reducible refine below_regrown_up _ _ ?_ ?_) | (with_reducible refine Below.alloc ?_ ?_ _) | (with_reducible refine Below.setCell ?_ ?_ _) | (with_reducible refine below_up ?_ ?_ (by assumption)) | (with_reducible exact Nat.le_refl _) | omega | (simp; done) | (simp; omega)))⟩
                              by_cases e : j = m
                              · subst e; exact HX.out
                              · exact HE.out j h (by omega)
                            case measure => simp [intOf]; omega
                          · have hzb : (movedR es acc es[m].ref != 0) = true := by simpa using hz
                            have HZ := Lib.hid hz
                            clear hz
                            go_wp2_with fail
                            refine (rmoved_any es _ cE acc es[m].ref _ (hse1.up hBw3) hk).mono ?_
                            rintro e w9 ⟨rfl, hb9⟩
                            go_wp2_with fail
                            go_ret2
                            refine ⟨?_, below_up hBw3 hBw3.size hb9⟩
                            rw [HA.out, agrees_no (fun h => ?_)]
                            · rfl
                            · rcases h.2.2 _ (List.getElem_mem hlt2) with h | h | h
                              · exact HTN.out h
                              · exact HNI.out h
                              · exact HZ.out h
                        · have HX : Hid (eOk own es acc es[m]) := Lib.hid (.inr (.inl (by simpa using hkn)))
                          go_wp2_with fail
                          go_roundw
                          case rel =>
                            refine ⟨m + 1, by omega, by go_num, Lib.hid (fun j h hj => ?_), (by repeat' (first | (with_reducible exact Below.refl _ _) | (with_reducible assumption) | (with_reducible refine below_drewN ?_ _) | (with_reducible refine Below.drew ?_) | (with_reducible refine below_regrown_up _ _ ?_ ?_) | (with_reducible refine Below.alloc ?_ ?_ _) | (with_reducible refine Below.setCell ?_ ?_ _) | (with_reducible refine below_up ?_ ?_ (by assumption)) | (with_reducible exact Nat.le_refl _) | omega | (simp; done) | (simp; omega)))⟩
                            by_cases e : j = m
                            · subst e; exact HX.out
                            · exact HE.out j h (by omega)
                          case measure => simp [intOf]; omega
              · obtain rfl : m = es.length := by omega
                go_wp2_with fail
                go_ret2
                refine ⟨?_, below_up hB (by omega) hbw2⟩
                rw [HA.out, agrees_iff.2 ⟨HM2.out.1, HM2.out.2, fun e he => by obtain ⟨j, hj, rfl⟩ := List.getElem_of_mem he; exact HE.out j hj hj⟩]
                rfl
      · have hb : ((want.length : Int) != (st.length : Int)) = true := by rw [bne_iff_ne]; omega
        rw [agrees_no (fun h => hlen (by rw [h.1]))] at hR
        have HA := Lib.hid hR
        clear hR hwl hlen
        go_enter Try.func30, Try.ntmps30
        go_wp2_with fail
        refine (rstmt_lit HR.out A c _ (hs.up (by repeat' (first | (with_reducible exact Below.refl _ _) | (with_reducible assumption) | (with_reducible refine below_drewN ?_ _) | (with_reducible refine Below.drew ?_) | (with_reducible refine below_regrown_up _ _ ?_ ?_) | (with_reducible refine Below.alloc ?_ ?_ _) | (with_reducible refine Below.setCell ?_ ?_ _) | (with_reducible refine below_up ?_ ?_ (by assumption)) | (with_reducible exact Nat.le_refl _) | omega | (simp; done) | (simp; omega)))) hl0 c0 c1).mono ?_
        rintro e w1 ⟨⟨A1, c1', rfl, hs1⟩, hb1⟩
        have hz1 := hb1.size
        simp only [World.size_alloc] at hz1
        go_wp2_with fail
        refine (rlvalid_any es E cE _ (hse.up (by repeat' (first | (with_reducible exact Below.refl _ _) | (with_reducible assumption) | (with_reducible refine below_drewN ?_ _) | (with_reducible refine Below.drew ?_) | (with_reducible refine below_regrown_up _ _ ?_ ?_) | (with_reducible refine Below.alloc ?_ ?_ _) | (with_reducible refine Below.setCell ?_ ?_ _) | (with_reducible refine below_up ?_ ?_ (by assumption)) | (with_reducible exact Nat.le_refl _) | omega | (simp; done) | (simp; omega)))) hse0).mono ?_
        rintro e w2 ⟨rfl, hb2⟩
        rw [hk]
        go_wp2_with fail
        go_ret2
        refine ⟨?_, ?_⟩
        · rw [HA.out]; rfl
        · repeat' (first
            | (with_reducible exact Below.refl _ _)
            | (with_reducible assumption)
            | (with_reducible refine below_drewN ?_ _)
            | (with_reducible refine Below.drew ?_)
            | (with_reducible refine below_regrown_up _ _ ?_ ?_)
            | (with_reducible refine Below.alloc ?_ ?_ _)
            | (with_reducible refine Below.setCell ?_ ?_ _)
            | (with_reducible refine below_up ?_ ?_ (by assumption))
            | (with_reducible exact Nat.le_refl _)
            | omega
            | (simp; done)
            | (simp; omega))
end Go.Proofs.Ythnncojbckifnaa
