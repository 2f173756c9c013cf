/-
  The law 'LedgerDays': the walk.
-/
import Derived.Test.YtdbdjhgcmcbiaaaLedPosts
namespace Go.Proofs.Ytdbdjhgcmcbiaaa
set_option linter.unusedSimpArgs false
set_option linter.unusedVariables false
open Go.RowKit
open Go.Sort (grow size_grow)

set_option maxHeartbeats 4000000
set_option maxRecDepth 100000
theorem ledOk_sub {l m : List Entry} (h : ledOk l = true) (hm : m.Sublist l) : ledOk m = true := by
  obtain ⟨h1, h2, h3⟩ := ledOk_iff.1 h
  have := hm.length_le
  exact ledOk_iff.2 ⟨by omega, fun e he => h2 e (hm.subset he), h3.sublist hm⟩
theorem upto_sub (l : List Entry) (d : Int) : (upto l d).Sublist l := List.filter_sublist
theorem bal_upto {p : Int → Bool} {l : List Entry} {d : Int} (h : ledOk l = true) : bal p (upto l d) 366 = bal p l d := by
  unfold bal
  congr 1
  unfold upto
  rw [List.filter_filter]
  refine List.filter_congr fun e he => ?_
  have := (Entry.ok_iff.1 ((ledOk_iff.1 h).2.1 e he)).1
  have h2 : decide (e.day ≤ 366) = true := by simpa using this.2
  rw [h2, Bool.true_and]
theorem upto_step {l : List Entry} {d : Int} {j : Nat} (h : j < l.length) : upto (l.take (j + 1)) d = if l[j].day ≤ d then upto (l.take j) d ++ [l[j]] else upto (l.take j) d := by
  unfold upto
  rw [List.take_succ_eq_append_getElem h, List.filter_append]
  by_cases hd : l[j].day ≤ d
  · rw [if_pos hd]; simp [hd]
  · rw [if_neg hd]; simp [hd]
open Go.ChangeShapes Go.WideShapes Go.ChangeAt Go.Deep in
theorem slice_room {H : Type} {enc : TypeId × Value → H} {P : Program} {w : World} {spare : Nat → Bool} {held : Bool} {r : Reach} {b0 : Nat} {t e : TypeId} {v : Value} {d : DataW H} {p : List MemPlace} (hs : P.underlying t = some (.slice e)) (hv : Value.okWide P w r b0 t v) (h : DataW.Trod enc P w 0 spare held t v d p) :
    ∀ (A : Option Addr) (n c : Nat), v = .slice A n c → n ≤ c ∧ (A = none → c = 0) := by
  obtain ⟨a, len, cap, rfl⟩ := okWide_slice hs hv
  obtain ⟨fuel, hf⟩ := h
  intro A n c hA
  injection hA with e1 e2 e3
  subst e1 e2 e3
  rcases open_slice hs hf with ⟨h1, _⟩ | ⟨a', len', cap', m, n', D, Pl, h1, _, hlc, hcm, hm, _, hel⟩
  · simp [Value.cells] at h1
    obtain ⟨rfl, rfl, rfl⟩ := h1
    exact ⟨Nat.le_refl _, fun _ => rfl⟩
  · simp [Value.cells] at h1
    obtain ⟨rfl, rfl, rfl⟩ := h1
    exact ⟨hlc, fun h => by cases h⟩
theorem Sl.nil_' {α : Type} {w : World} {B size : Nat} {enc : α → List Value} {A : Option Addr} : Sl w B size enc A ([] : List α) := fun h => absurd rfl h
theorem days_no (l : List Entry) (A : Option Addr) (c : Nat) (u v k : Int) (w : World) (hs : SlEnt w A l) (hl0 : l.length ≤ maxLen) (hus : (decide (l.length ≤ 60) && ledOk l) = false) :
    Calls Try.prog 14 #[.slice A l.length c, .int .u16 u, .int .u16 v, .int .u8 k] w fun e w' => e = .returned (.bool true) ∧ Below w.heap.size w w' := by
  go_enter Try.func14, Try.ntmps14
  go_wp2_with (first
    | (go_at_call 24; refine (head28_any _).mono ?_; rintro e w1 ⟨rfl, hb1⟩; have hz1 := hb1.size; (try simp only [World.size_alloc, World.size_setCell, World.size_drew, size_drewN', size_grow, size_redrawn] at hz1); obtain ⟨hc1, hf1⟩ := bcellB (B := w.heap.size) hb1 (by first | omega | (simp only [World.size_alloc, World.size_setCell, World.size_drew, size_drewN', size_grow, size_redrawn]; omega)))
    | (go_at_call 37; refine (usable_any l A c _ (hs.up (by repeat' (first | (with_reducible exact Below.refl _ _) | (with_reducible assumption) | (with_reducible refine below_drewN ?_ _) | (with_reducible refine Below.drew ?_) | (with_reducible refine below_regrown_up _ _ ?_ ?_) | (with_reducible refine Below.alloc ?_ ?_ _) | (with_reducible refine Below.setCell ?_ ?_ _) | (with_reducible refine below_up ?_ ?_ (by assumption)) | (with_reducible exact Nat.le_refl _) | omega | (simp; done) | (simp; omega)))) hl0).mono ?_; rintro e w2 ⟨rfl, hb2⟩; have hz2 := hb2.size; (try simp only [World.size_alloc, World.size_setCell, World.size_drew, size_drewN', size_grow, size_redrawn] at hz2); obtain ⟨hc2, hf2⟩ := bcellB (B := w.heap.size) hb2 (by first | omega | (simp only [World.size_alloc, World.size_setCell, World.size_drew, size_drewN', size_grow, size_redrawn]; omega)); rw [hus]))
  have hB2 := below_up hb1 hb1.size hb2
  go_ret
  exact ⟨rfl, hB2⟩
theorem days_yes (l : List Entry) (A : Option Addr) (c : Nat) (u v k : Int) (w : World) (hs : SlEnt w A l) (hl : l.length ≤ 60) (hus : (decide (l.length ≤ 60) && ledOk l) = true) (hk : ledOk l = true) (hc : l.length ≤ c) (hcn : A = none → c = 0)
    (u0 : 0 ≤ u) (u1 : u ≤ 65535) (v0 : 0 ≤ v) (v1 : v ≤ 65535) (k0 : 0 ≤ k) (k1 : k ≤ 255) :
    Calls Try.prog 14 #[.slice A l.length c, .int .u16 u, .int .u16 v, .int .u8 k] w fun e w' => e = .returned (.bool true) ∧ Below w.heap.size w w' := by
  have hl0 : l.length ≤ maxLen := by unfold maxLen; omega
  have hl1 : l.length ≤ 140737488355328 := by omega
  have d0 : 0 ≤ u % 367 ∧ u % 367 ≤ 366 := by omega
  have a0 : 100 ≤ 100 + v % 900 ∧ 100 + v % 900 ≤ 999 := by omega
  have n0 : ((l.length : Int) + 1 == 0) = false := by rw [beq_eq_false_iff_ne]; omega
  have n1 : ¬ (l.length : Int) + 1 = 0 := by omega
  have n2 : (0 : Int) < (l.length : Int) + 1 := by omega
  go_enter Try.func14, Try.ntmps14
  go_wp2_with (first
    | (go_at_call 24; refine (head28_any _).mono ?_; rintro e w1 ⟨rfl, hb1⟩; have hz1 := hb1.size; (try simp only [World.size_alloc, World.size_setCell, World.size_drew, size_drewN', size_grow, size_redrawn] at hz1); obtain ⟨hc1, hf1⟩ := bcellB (B := w.heap.size) hb1 (by first | omega | (simp only [World.size_alloc, World.size_setCell, World.size_drew, size_drewN', size_grow, size_redrawn]; omega)))
    | (go_at_call 37; refine (usable_any l A c _ (hs.up (by repeat' (first | (with_reducible exact Below.refl _ _) | (with_reducible assumption) | (with_reducible refine below_drewN ?_ _) | (with_reducible refine Below.drew ?_) | (with_reducible refine below_regrown_up _ _ ?_ ?_) | (with_reducible refine Below.alloc ?_ ?_ _) | (with_reducible refine Below.setCell ?_ ?_ _) | (with_reducible refine below_up ?_ ?_ (by assumption)) | (with_reducible exact Nat.le_refl _) | omega | (simp; done) | (simp; omega)))) hl0).mono ?_; rintro e w2 ⟨rfl, hb2⟩; have hz2 := hb2.size; (try simp only [World.size_alloc, World.size_setCell, World.size_drew, size_drewN', size_grow, size_redrawn] at hz2); obtain ⟨hc2, hf2⟩ := bcellB (B := w.heap.size) hb2 (by first | omega | (simp only [World.size_alloc, World.size_setCell, World.size_drew, size_drewN', size_grow, size_redrawn]; omega)); rw [hus]))
  have hB2 := below_up hb1 hb1.size hb2
  have hz2' := hB2.size
  go_loopw [12, 38] (fun ev i wr => ∃ j : Nat, j ≤ l.length ∧ i = .int .i64 j ∧ OwnE wr w2.heap.size ev (upto (l.take j) (u % 367)) ∧ Below w2.heap.size w2 wr) (fun _ i _ => l.length - (intOf i).toNat)
  case atStart => exact ⟨0, by omega, rfl, OwnL.nil_, Below.refl _ _⟩
  case round =>
    obtain ⟨j, hj, rfl, hown, hbw⟩ := hrel
    have hbz := hbw.size
    have hB := below_up hB2 hz2' hbw
    by_cases hlt : j < l.length
    · have hx4 : (0 : Int) ≤ (j : Int) := by omega
      have hx5 : (j : Int) < (l.length : Int) := by omega
      obtain ⟨b, off, rfl, hbl, hcell⟩ := (hs.up hB).at_ hlt
      have q0 := hcell 0 _ rfl
      have q1 := hcell 1 _ rfl
      have q2 := hcell 2 _ rfl
      have q3 := hcell 3 _ rfl
      have q4 := hcell 4 _ rfl
      rw [Nat.add_zero] at q0
      clear hcell
      have hst := upto_step (d := u % 367) hlt
      have hlen : (upto (l.take j) (u % 367)).length ≤ 60 := Nat.le_trans (upto_len _ _) (by rw [List.length_take]; omega)
      generalize hout : upto (l.take j) (u % 367) = out at *
      clear hout
      by_cases hd : l[j].day ≤ u % 367
      · rw [if_pos hd] at hst
        have HST := Lib.hid hst
        clear hst
        go_wp2_with (at_builtin; go_loud (refine wpList_push _ rfl (.tmp 46) (.tmp 48) 47 49 rfl w2.heap.size 5 40 Entry.cs elemEnt ent_len ent_one _ out rfl ((hown.alloc _).alloc _) _ 1 l[j] rfl (news_at _ _ _ rfl (by simp)) (by first | omega | (simp; done) | (simp; omega)) (by first | omega | (simp; done) | (simp; omega)) (by first | omega | (simp; done) | (simp; omega)) ?_); intro v2 w5 hown5 hgrow5)
        have hb5 : Below w2.heap.size w2 w5 := below_push (by repeat' (first | (with_reducible exact Below.refl _ _) | (with_reducible assumption) | (with_reducible refine below_drewN ?_ _) | (with_reducible refine Below.drew ?_) | (with_reducible refine below_regrown_up _ _ ?_ ?_) | (with_reducible refine Below.alloc ?_ ?_ _) | (with_reducible refine Below.setCell ?_ ?_ _) | (with_reducible refine below_up ?_ ?_ (by assumption)) | (with_reducible exact Nat.le_refl _) | omega | (simp; done) | (simp; omega))) ((hown.alloc _).alloc _) hgrow5 (by first | omega | (simp; done) | (simp; omega))
        go_roundw
        case rel =>
          refine ⟨j + 1, by omega, by go_num, ?_, hb5⟩
          rw [HST.out]
          exact hown5
        case measure => simp [intOf]; omega
      · rw [if_neg hd] at hst
        have HST := Lib.hid hst
        clear hst
        go_wp2_with fail
        go_roundw
        case rel =>
          refine ⟨j + 1, by omega, by go_num, ?_, (by repeat' (first | (with_reducible exact Below.refl _ _) | (with_reducible assumption) | (with_reducible refine below_drewN ?_ _) | (with_reducible refine Below.drew ?_) | (with_reducible refine below_regrown_up _ _ ?_ ?_) | (with_reducible refine Below.alloc ?_ ?_ _) | (with_reducible refine Below.setCell ?_ ?_ _) | (with_reducible refine below_up ?_ ?_ (by assumption)) | (with_reducible exact Nat.le_refl _) | omega | (simp; done) | (simp; omega)))⟩
          rw [HST.out]
          exact hown.alloc _
        case measure => simp [intOf]; omega
    · obtain rfl : j = l.length := by omega
      rw [List.take_of_length_le (Nat.le_refl _)] at hown
      have hmk : ledOk (upto l (u % 367)) = true := ledOk_sub hk (upto_sub _ _)
      have hbu := bal_upto (p := fun z => z == 100 + v % 900) (d := u % 367) hk
      have hml : (upto l (u % 367)).length ≤ 60 := Nat.le_trans (upto_len _ _) (by omega)
      generalize upto l (u % 367) = m at *
      obtain ⟨A3, c3, rfl, hc3', hc3'', hs3⟩ := hown.sl ent_len
      go_wp2_with fail
      generalize hkz : k % ((l.length : Int) + 1) = kz
      have hkz0 : 0 ≤ kz ∧ kz ≤ (l.length : Int) := by
        have := Int.emod_nonneg k (b := (l.length : Int) + 1) (by omega)
        have := Int.emod_lt_of_pos k (b := (l.length : Int) + 1) (by omega)
        omega
      clear hkz
      obtain ⟨l1, l2, hl12, rfl⟩ : ∃ l1 l2 : List Entry, l = l1 ++ l2 ∧ kz = (l1.length : Int) := by
        refine ⟨l.take kz.toNat, l.drop kz.toNat, (List.take_append_drop _ _).symm, ?_⟩
        rw [List.length_take]
        omega
      have hk1 : ledOk l1 = true := ledOk_sub hk (by rw [hl12]; exact List.sublist_append_left _ _)
      have hk2 : ledOk l2 = true := ledOk_sub hk (by rw [hl12]; exact List.sublist_append_right _ _)
      have hsum := bal_append (fun z => z == 100 + v % 900) l1 l2 (u % 367)
      rw [← hl12] at hsum
      have hM1 : l1.length ≤ l.length := by rw [hl12]; simp
      have hM2 : l2.length = l.length - l1.length := by rw [hl12]; simp
      have hp1 : (l1.length : Int) ≤ (l.length : Int) := by omega
      have hp2 : (0 : Int) ≤ (l1.length : Int) := by omega
      have hp3 : l1.length ≤ c := by omega
      have hs1 : SlEnt w A l1 := by
        have := hs.take l1.length
        rw [show l.take l1.length = l1 by rw [hl12]; simp] at this
        exact this
      obtain ⟨x1, x2⟩ := bal_bd (fun z => z == 100 + v % 900) (day := u % 367) hk1
      obtain ⟨y1, y2⟩ := bal_bd (fun z => z == 100 + v % 900) (day := u % 367) hk2
      have h1 := balR_ok (a := 100 + v % 900) hk a0 d0
      have h2 := balR_ok (a := 100 + v % 900) (day := 366) hmk a0 (by omega)
      have h3 := balR_ok (a := 100 + v % 900) hk1 a0 d0
      have h4 := balR_ok (a := 100 + v % 900) hk2 a0 d0
      rw [hbu, hsum] at h2
      rw [hsum] at h1
      clear hsum hbu
      generalize bal (fun z => z == 100 + v % 900) l1 (u % 367) = X at *
      generalize bal (fun z => z == 100 + v % 900) l2 (u % 367) = Y at *
      have H1 := Lib.hid h1
      have H2 := Lib.hid h2
      have H3 := Lib.hid h3
      have H4 := Lib.hid h4
      have HM2 := Lib.hid hM2
      clear h1 h2 h3 h4 hM2
      have hwr : IntKind.i64.wrap (X + Y) = X + Y := IntWalk.i64_in _ (by omega)
      have hml1 : m.length ≤ 140737488355328 := by omega
      have hl11 : l1.length ≤ 140737488355328 := by omega
      have hl21 : l2.length ≤ 140737488355328 := by have := HM2.out; omega
      obtain ⟨A', HA', hs2⟩ : ∃ A', Hid (∀ b off, A = some ⟨b, off, none⟩ → (if c = l1.length then some (⟨b, off, none⟩ : Addr) else some ⟨b, off + l1.length * 5, none⟩) = A') ∧ SlEnt w A' l2 := by
        by_cases he : 0 < l.length
        · obtain ⟨b, off, rfl, _, _⟩ := hs.at_ he
          obtain ⟨A', hA', hsl'⟩ := hs.cut l1.length hc
          rw [show l.drop l1.length = l2 by rw [hl12]; simp] at hsl'
          exact ⟨A', Lib.hid (fun b' off' h => by cases h; exact hA'), hsl'⟩
        · have : l2 = [] := List.eq_nil_of_length_eq_zero (by have := HM2.out; omega)
          subst this
          by_cases hA : ∃ b off, A = some ⟨b, off, none⟩
          · obtain ⟨b, off, rfl⟩ := hA
            exact ⟨_, Lib.hid (fun b' off' h => by cases h; rfl), Sl.nil_'⟩
          · exact ⟨none, Lib.hid (fun b' off' h => absurd ⟨b', off', h⟩ hA), Sl.nil_'⟩
      have HL := Lib.hid hl12
      clear hl12
      refine (bal_lit H1.out A c _ (hs.up hB) hl1).mono ?_
      rintro e w5 ⟨rfl, hb5⟩; have hz5 := hb5.size; (try simp only [World.size_alloc, World.size_setCell, World.size_drew, size_drewN', size_grow, size_redrawn] at hz5); obtain ⟨hc5, hf5⟩ := bcellB (B := w.heap.size) hb5 (by first | omega | (simp only [World.size_alloc, World.size_setCell, World.size_drew, size_drewN', size_grow, size_redrawn]; omega))
      have hB5 := below_up hB hB.size hb5
      go_wp2_with fail
      refine (bal_lit H2.out A3 c3 _ (hs3.up hb5) hml1).mono ?_
      rintro e w6 ⟨rfl, hb6⟩; have hz6 := hb6.size; (try simp only [World.size_alloc, World.size_setCell, World.size_drew, size_drewN', size_grow, size_redrawn] at hz6); obtain ⟨hc6, hf6⟩ := bcellB (B := w.heap.size) hb6 (by first | omega | (simp only [World.size_alloc, World.size_setCell, World.size_drew, size_drewN', size_grow, size_redrawn]; omega))
      have hB6 := below_up hB5 hB5.size hb6
      by_cases he : 0 < l.length
      · obtain ⟨b, off, rfl, _, _⟩ := hs.at_ he
        have hA' := HA'.out b off rfl
        go_wp2_with fail
        refine (bal_lit H3.out (some ⟨b, off, none⟩) c _ (hs1.up hB6) hl11).mono ?_
        rintro e w7 ⟨rfl, hb7⟩; have hz7 := hb7.size; (try simp only [World.size_alloc, World.size_setCell, World.size_drew, size_drewN', size_grow, size_redrawn] at hz7); obtain ⟨hc7, hf7⟩ := bcellB (B := w.heap.size) hb7 (by first | omega | (simp only [World.size_alloc, World.size_setCell, World.size_drew, size_drewN', size_grow, size_redrawn]; omega))
        have hB7 := below_up hB6 hB6.size hb7
        go_wp2_with fail
        rw [← HM2.out]
        refine (bal_lit H4.out A' (c - l1.length) _ (hs2.up hB7) hl21).mono ?_
        rintro e w8 ⟨rfl, hb8⟩; have hz8 := hb8.size; (try simp only [World.size_alloc, World.size_setCell, World.size_drew, size_drewN', size_grow, size_redrawn] at hz8); obtain ⟨hc8, hf8⟩ := bcellB (B := w.heap.size) hb8 (by first | omega | (simp only [World.size_alloc, World.size_setCell, World.size_drew, size_drewN', size_grow, size_redrawn]; omega))
        have hB8 := below_up hB7 hB7.size hb8
        go_wp2_with fail
        go_ret
        exact ⟨ret_bool (by simp), hB8⟩
      · have hany : ∀ (w' : World) (B' : Option Addr), Sl w' w'.heap.size 5 Entry.cs B' l2 := by
          intro w' B'
          have : l2 = [] := List.eq_nil_of_length_eq_zero (by have := HM2.out; omega)
          subst this
          exact Sl.nil_'
        have e1 : l1 = [] := List.eq_nil_of_length_eq_zero (by omega)
        have e2 : l2 = [] := List.eq_nil_of_length_eq_zero (by have := HM2.out; omega)
        have H3' := H3.out
        have H4' := H4.out
        have H4l := H4.out
        rw [show l2 = l by rw [e2]; exact (List.eq_nil_of_length_eq_zero (by omega)).symm] at H4l
        rw [e1] at H3'
        rw [e2] at H4'
        rcases A with _ | ⟨b, off, sp⟩
        · obtain rfl := hcn rfl
          go_wp2_with fail
          refine (bal_lit (l := []) H3' none 0 _ Sl.nil_ (by simp)).mono ?_
          rintro e w7 ⟨rfl, hb7⟩; have hz7 := hb7.size; (try simp only [World.size_alloc, World.size_setCell, World.size_drew, size_drewN', size_grow, size_redrawn] at hz7); obtain ⟨hc7, hf7⟩ := bcellB (B := w.heap.size) hb7 (by first | omega | (simp only [World.size_alloc, World.size_setCell, World.size_drew, size_drewN', size_grow, size_redrawn]; omega))
          have hB7 := below_up hB6 hB6.size hb7
          go_wp2_with fail
          refine (bal_lit (l := []) H4' none 0 _ Sl.nil_ (by simp)).mono ?_
          rintro e w8 ⟨rfl, hb8⟩; have hz8 := hb8.size; (try simp only [World.size_alloc, World.size_setCell, World.size_drew, size_drewN', size_grow, size_redrawn] at hz8); obtain ⟨hc8, hf8⟩ := bcellB (B := w.heap.size) hb8 (by first | omega | (simp only [World.size_alloc, World.size_setCell, World.size_drew, size_drewN', size_grow, size_redrawn]; omega))
          have hB8 := below_up hB7 hB7.size hb8
          go_wp2_with fail
          go_ret
          exact ⟨ret_bool (by simp), hB8⟩
        · go_wp2_with fail
          refine (bal_lit (l := []) H3' (some ⟨b, off, sp⟩) c _ Sl.nil_' (by simp)).mono ?_
          rintro e w7 ⟨rfl, hb7⟩; have hz7 := hb7.size; (try simp only [World.size_alloc, World.size_setCell, World.size_drew, size_drewN', size_grow, size_redrawn] at hz7); obtain ⟨hc7, hf7⟩ := bcellB (B := w.heap.size) hb7 (by first | omega | (simp only [World.size_alloc, World.size_setCell, World.size_drew, size_drewN', size_grow, size_redrawn]; omega))
          have hB7 := below_up hB6 hB6.size hb7
          go_wp2_with fail
          all_goals refine (bal_lit H4l (some ⟨b, off, sp⟩) c _ (hs.up hB7) hl1).mono ?_
          all_goals rintro e w8 ⟨rfl, hb8⟩; have hz8 := hb8.size; (try simp only [World.size_alloc, World.size_setCell, World.size_drew, size_drewN', size_grow, size_redrawn] at hz8); obtain ⟨hc8, hf8⟩ := bcellB (B := w.heap.size) hb8 (by first | omega | (simp only [World.size_alloc, World.size_setCell, World.size_drew, size_drewN', size_grow, size_redrawn]; omega))
          all_goals have hB8 := below_up hB7 hB7.size hb8
          all_goals go_wp2_with fail
          all_goals go_ret
          all_goals exact ⟨ret_bool (by simp), hB8⟩
theorem law_days (l : List Entry) (A : Option Addr) (c : Nat) (u v k : Int) (w : World) (hs : SlEnt w A l) (hl0 : l.length ≤ maxLen) (hc : l.length ≤ c) (hcn : A = none → c = 0)
    (u0 : 0 ≤ u) (u1 : u ≤ 65535) (v0 : 0 ≤ v) (v1 : v ≤ 65535) (k0 : 0 ≤ k) (k1 : k ≤ 255) :
    Calls Try.prog 14 #[.slice A l.length c, .int .u16 u, .int .u16 v, .int .u8 k] w fun e w' => e = .returned (.bool true) ∧ Below w.heap.size w w' := by
  by_cases h : (decide (l.length ≤ 60) && ledOk l) = true
  · have h' := h
    rw [Bool.and_eq_true, decide_eq_true_eq] at h'
    exact days_yes l A c u v k w hs h'.1 h h'.2 hc hcn u0 u1 v0 v1 k0 k1
  · exact days_no l A c u v k w hs hl0 (by simpa using h)
end Go.Proofs.Ytdbdjhgcmcbiaaa
