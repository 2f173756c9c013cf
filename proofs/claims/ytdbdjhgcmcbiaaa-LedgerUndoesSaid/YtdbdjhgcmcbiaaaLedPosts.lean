/-
  The law 'LedgerPosts': the walk.
-/
import Derived.Test.YtdbdjhgcmcbiaaaLedZero
namespace Go.Proofs.Ytdbdjhgcmcbiaaa
set_option linter.unusedSimpArgs false
set_option linter.unusedVariables false
open Go.RowKit
open Go.Sort (grow size_grow)

set_option maxHeartbeats 4000000
set_option maxRecDepth 100000
theorem begun_false {l : List Entry} {day : Int} (h : begun l day = false) (hr : Rises l) : ∀ e ∈ l, e.day ≤ day := by
  intro e he
  obtain ⟨j, hj, rfl⟩ := List.getElem_of_mem he
  rw [begun_at (by omega), decide_eq_false_iff_not] at h
  have h1 : l[j].day ≤ l[l.length - 1].day := by
    rcases Nat.lt_or_ge j (l.length - 1) with h2 | h2
    · exact (List.pairwise_iff_getElem.1 hr) j (l.length - 1) hj (by omega) h2
    · have : j = l.length - 1 := by omega
      subst this
      exact Int.le_refl _
  omega
theorem ledOk_snoc {l : List Entry} {x : Entry} (h : ledOk l = true) (hx : x.ok = true) (hb : begun l x.day = false) (hl : l.length < 5000) : ledOk (l ++ [x]) = true := by
  obtain ⟨h1, h2, h3⟩ := ledOk_iff.1 h
  refine ledOk_iff.2 ⟨by simp; omega, fun e he => ?_, ?_⟩
  · rcases List.mem_append.1 he with he | he
    · exact h2 e he
    · simp at he
      subst he
      exact hx
  · unfold Rises
    rw [List.pairwise_append]
    refine ⟨h3, by simp, fun a ha b hb' => ?_⟩
    simp at hb'
    subst hb'
    exact begun_false hb h3 a ha
theorem bal_one (p : Int → Bool) (l : List Entry) (x : Entry) (d : Int) : bal p (l ++ [x]) d = bal p l d + if x.day ≤ d then mv p x else 0 := by
  rw [bal_append]
  congr 1
  unfold bal upto mvs
  by_cases hd : x.day ≤ d
  · rw [List.filter_cons, if_pos (by simpa using hd), if_pos hd]; simp
  · rw [List.filter_cons, if_neg (by simpa using hd), if_neg hd]; simp
theorem posts_no (l : List Entry) (x : Entry) (A : Option Addr) (c : Nat) (u v : Int) (w : World) (hs : SlEnt w A l) (hl0 : l.length ≤ maxLen) (hus : (decide (l.length ≤ 60) && ledOk l) = false) :
    Calls Try.prog 12 #[.slice A l.length c, x.v, .int .u16 u, .int .u16 v] w fun e w' => e = .returned (.bool true) ∧ Below w.heap.size w w' := by
  go_enter Try.func12, Try.ntmps12
  go_wp2_with (first
    | (go_at_call 24; refine (head28_any _).mono ?_; rintro e w1 ⟨rfl, hb1⟩; have hz1 := hb1.size; (try simp only [World.size_alloc, World.size_setCell, World.size_drew, size_drewN', size_grow, size_redrawn] at hz1); obtain ⟨hc1, hf1⟩ := bcellB (B := w.heap.size + 1) hb1 (by first | omega | (simp only [World.size_alloc, World.size_setCell, World.size_drew, size_drewN', size_grow, size_redrawn]; omega)))
    | (go_at_call 37; refine (usable_any l A c _ (hs.up (by repeat' (first | (with_reducible exact Below.refl _ _) | (with_reducible assumption) | (with_reducible refine below_drewN ?_ _) | (with_reducible refine Below.drew ?_) | (with_reducible refine below_regrown_up _ _ ?_ ?_) | (with_reducible refine Below.alloc ?_ ?_ _) | (with_reducible refine Below.setCell ?_ ?_ _) | (with_reducible refine below_up ?_ ?_ (by assumption)) | (with_reducible exact Nat.le_refl _) | omega | (simp; done) | (simp; omega)))) hl0).mono ?_; rintro e w2 ⟨rfl, hb2⟩; have hz2 := hb2.size; (try simp only [World.size_alloc, World.size_setCell, World.size_drew, size_drewN', size_grow, size_redrawn] at hz2); obtain ⟨hc2, hf2⟩ := bcellB (B := w.heap.size + 1) hb2 (by first | omega | (simp only [World.size_alloc, World.size_setCell, World.size_drew, size_drewN', size_grow, size_redrawn]; omega)); rw [hus]))
  have hB1 : Below w.heap.size w w1 := (by repeat' (first | (with_reducible exact Below.refl _ _) | (with_reducible assumption) | (with_reducible refine below_drewN ?_ _) | (with_reducible refine Below.drew ?_) | (with_reducible refine below_regrown_up _ _ ?_ ?_) | (with_reducible refine Below.alloc ?_ ?_ _) | (with_reducible refine Below.setCell ?_ ?_ _) | (with_reducible refine below_up ?_ ?_ (by assumption)) | (with_reducible exact Nat.le_refl _) | omega | (simp; done) | (simp; omega)))
  have hB2 := below_up hB1 hB1.size hb2
  go_ret
  exact ⟨rfl, hB2⟩
theorem posts_1 (l : List Entry) (x : Entry) (A : Option Addr) (c : Nat) (u v : Int) (w : World) (hs : SlEnt w A l) (hl : l.length ≤ 60) (hus : (decide (l.length ≤ 60) && ledOk l) = true) (hp : postR l x = ([], 1)) :
    Calls Try.prog 12 #[.slice A l.length c, x.v, .int .u16 u, .int .u16 v] w fun e w' => e = .returned (.bool true) ∧ Below w.heap.size w w' := by
  have hl0 : l.length ≤ maxLen := by unfold maxLen; omega
  have HP := Lib.hid hp
  clear hp
  go_enter Try.func12, Try.ntmps12
  go_wp2_with (first
    | (go_at_call 24; refine (head28_any _).mono ?_; rintro e w1 ⟨rfl, hb1⟩; have hz1 := hb1.size; (try simp only [World.size_alloc, World.size_setCell, World.size_drew, size_drewN', size_grow, size_redrawn] at hz1); obtain ⟨hc1, hf1⟩ := bcellB (B := w.heap.size + 1) hb1 (by first | omega | (simp only [World.size_alloc, World.size_setCell, World.size_drew, size_drewN', size_grow, size_redrawn]; omega)))
    | (go_at_call 37; refine (usable_any l A c _ (hs.up (by repeat' (first | (with_reducible exact Below.refl _ _) | (with_reducible assumption) | (with_reducible refine below_drewN ?_ _) | (with_reducible refine Below.drew ?_) | (with_reducible refine below_regrown_up _ _ ?_ ?_) | (with_reducible refine Below.alloc ?_ ?_ _) | (with_reducible refine Below.setCell ?_ ?_ _) | (with_reducible refine below_up ?_ ?_ (by assumption)) | (with_reducible exact Nat.le_refl _) | omega | (simp; done) | (simp; omega)))) hl0).mono ?_; rintro e w2 ⟨rfl, hb2⟩; have hz2 := hb2.size; (try simp only [World.size_alloc, World.size_setCell, World.size_drew, size_drewN', size_grow, size_redrawn] at hz2); obtain ⟨hc2, hf2⟩ := bcellB (B := w.heap.size + 1) hb2 (by first | omega | (simp only [World.size_alloc, World.size_setCell, World.size_drew, size_drewN', size_grow, size_redrawn]; omega)); rw [hus]))
  have hB1 : Below w.heap.size w w1 := (by repeat' (first | (with_reducible exact Below.refl _ _) | (with_reducible assumption) | (with_reducible refine below_drewN ?_ _) | (with_reducible refine Below.drew ?_) | (with_reducible refine below_regrown_up _ _ ?_ ?_) | (with_reducible refine Below.alloc ?_ ?_ _) | (with_reducible refine Below.setCell ?_ ?_ _) | (with_reducible refine below_up ?_ ?_ (by assumption)) | (with_reducible exact Nat.le_refl _) | omega | (simp; done) | (simp; omega)))
  have hB2 := below_up hB1 hB1.size hb2
  refine (post_lit HP.out A c _ (hs.up hB2) (by omega)).mono ?_
  rintro e w3 ⟨⟨A3, c3, rfl, _, hs3⟩, hb3⟩
  have hz3 := hb3.size
  obtain ⟨hc3, hf3⟩ := bcellB (B := w.heap.size + 1) hb3 (by omega)
  have hB3 := below_up hB2 hB2.size hb3
  go_wp2_with fail
  go_ret
  exact ⟨ret_bool (by simp), hB3⟩
theorem posts_6 (l : List Entry) (x : Entry) (A : Option Addr) (c : Nat) (u v : Int) (w : World) (hs : SlEnt w A l) (hl : l.length ≤ 60) (hus : (decide (l.length ≤ 60) && ledOk l) = true) (hp : postR l x = ([], 6)) :
    Calls Try.prog 12 #[.slice A l.length c, x.v, .int .u16 u, .int .u16 v] w fun e w' => e = .returned (.bool true) ∧ Below w.heap.size w w' := by
  have hl0 : l.length ≤ maxLen := by unfold maxLen; omega
  have HP := Lib.hid hp
  clear hp
  go_enter Try.func12, Try.ntmps12
  go_wp2_with (first
    | (go_at_call 24; refine (head28_any _).mono ?_; rintro e w1 ⟨rfl, hb1⟩; have hz1 := hb1.size; (try simp only [World.size_alloc, World.size_setCell, World.size_drew, size_drewN', size_grow, size_redrawn] at hz1); obtain ⟨hc1, hf1⟩ := bcellB (B := w.heap.size + 1) hb1 (by first | omega | (simp only [World.size_alloc, World.size_setCell, World.size_drew, size_drewN', size_grow, size_redrawn]; omega)))
    | (go_at_call 37; refine (usable_any l A c _ (hs.up (by repeat' (first | (with_reducible exact Below.refl _ _) | (with_reducible assumption) | (with_reducible refine below_drewN ?_ _) | (with_reducible refine Below.drew ?_) | (with_reducible refine below_regrown_up _ _ ?_ ?_) | (with_reducible refine Below.alloc ?_ ?_ _) | (with_reducible refine Below.setCell ?_ ?_ _) | (with_reducible refine below_up ?_ ?_ (by assumption)) | (with_reducible exact Nat.le_refl _) | omega | (simp; done) | (simp; omega)))) hl0).mono ?_; rintro e w2 ⟨rfl, hb2⟩; have hz2 := hb2.size; (try simp only [World.size_alloc, World.size_setCell, World.size_drew, size_drewN', size_grow, size_redrawn] at hz2); obtain ⟨hc2, hf2⟩ := bcellB (B := w.heap.size + 1) hb2 (by first | omega | (simp only [World.size_alloc, World.size_setCell, World.size_drew, size_drewN', size_grow, size_redrawn]; omega)); rw [hus]))
  have hB1 : Below w.heap.size w w1 := (by repeat' (first | (with_reducible exact Below.refl _ _) | (with_reducible assumption) | (with_reducible refine below_drewN ?_ _) | (with_reducible refine Below.drew ?_) | (with_reducible refine below_regrown_up _ _ ?_ ?_) | (with_reducible refine Below.alloc ?_ ?_ _) | (with_reducible refine Below.setCell ?_ ?_ _) | (with_reducible refine below_up ?_ ?_ (by assumption)) | (with_reducible exact Nat.le_refl _) | omega | (simp; done) | (simp; omega)))
  have hB2 := below_up hB1 hB1.size hb2
  refine (post_lit HP.out A c _ (hs.up hB2) (by omega)).mono ?_
  rintro e w3 ⟨⟨A3, c3, rfl, _, hs3⟩, hb3⟩
  have hz3 := hb3.size
  obtain ⟨hc3, hf3⟩ := bcellB (B := w.heap.size + 1) hb3 (by omega)
  have hB3 := below_up hB2 hB2.size hb3
  go_wp2_with fail
  go_ret
  exact ⟨ret_bool (by simp), hB3⟩
theorem posts_2 (l : List Entry) (x : Entry) (A : Option Addr) (c : Nat) (u v : Int) (w : World) (hs : SlEnt w A l) (hl : l.length ≤ 60) (hus : (decide (l.length ≤ 60) && ledOk l) = true) (hp : postR l x = ([], 2)) :
    Calls Try.prog 12 #[.slice A l.length c, x.v, .int .u16 u, .int .u16 v] w fun e w' => e = .returned (.bool true) ∧ Below w.heap.size w w' := by
  have hl0 : l.length ≤ maxLen := by unfold maxLen; omega
  have HP := Lib.hid hp
  clear hp
  go_enter Try.func12, Try.ntmps12
  go_wp2_with (first
    | (go_at_call 24; refine (head28_any _).mono ?_; rintro e w1 ⟨rfl, hb1⟩; have hz1 := hb1.size; (try simp only [World.size_alloc, World.size_setCell, World.size_drew, size_drewN', size_grow, size_redrawn] at hz1); obtain ⟨hc1, hf1⟩ := bcellB (B := w.heap.size + 1) hb1 (by first | omega | (simp only [World.size_alloc, World.size_setCell, World.size_drew, size_drewN', size_grow, size_redrawn]; omega)))
    | (go_at_call 37; refine (usable_any l A c _ (hs.up (by repeat' (first | (with_reducible exact Below.refl _ _) | (with_reducible assumption) | (with_reducible refine below_drewN ?_ _) | (with_reducible refine Below.drew ?_) | (with_reducible refine below_regrown_up _ _ ?_ ?_) | (with_reducible refine Below.alloc ?_ ?_ _) | (with_reducible refine Below.setCell ?_ ?_ _) | (with_reducible refine below_up ?_ ?_ (by assumption)) | (with_reducible exact Nat.le_refl _) | omega | (simp; done) | (simp; omega)))) hl0).mono ?_; rintro e w2 ⟨rfl, hb2⟩; have hz2 := hb2.size; (try simp only [World.size_alloc, World.size_setCell, World.size_drew, size_drewN', size_grow, size_redrawn] at hz2); obtain ⟨hc2, hf2⟩ := bcellB (B := w.heap.size + 1) hb2 (by first | omega | (simp only [World.size_alloc, World.size_setCell, World.size_drew, size_drewN', size_grow, size_redrawn]; omega)); rw [hus]))
  have hB1 : Below w.heap.size w w1 := (by repeat' (first | (with_reducible exact Below.refl _ _) | (with_reducible assumption) | (with_reducible refine below_drewN ?_ _) | (with_reducible refine Below.drew ?_) | (with_reducible refine below_regrown_up _ _ ?_ ?_) | (with_reducible refine Below.alloc ?_ ?_ _) | (with_reducible refine Below.setCell ?_ ?_ _) | (with_reducible refine below_up ?_ ?_ (by assumption)) | (with_reducible exact Nat.le_refl _) | omega | (simp; done) | (simp; omega)))
  have hB2 := below_up hB1 hB1.size hb2
  refine (post_lit HP.out A c _ (hs.up hB2) (by omega)).mono ?_
  rintro e w3 ⟨⟨A3, c3, rfl, _, hs3⟩, hb3⟩
  have hz3 := hb3.size
  obtain ⟨hc3, hf3⟩ := bcellB (B := w.heap.size + 1) hb3 (by omega)
  have hB3 := below_up hB2 hB2.size hb3
  go_wp2_with fail
  go_ret
  exact ⟨ret_bool (by simp), hB3⟩
theorem posts_0 (l m : List Entry) (x : Entry) (A : Option Addr) (c : Nat) (u v : Int) (w : World) (hs : SlEnt w A l) (hl : l.length ≤ 60) (hus : (decide (l.length ≤ 60) && ledOk l) = true) (hm : m = l ++ [x]) (hp : postR l x = (m, 0)) (hk : ledOk l = true) (hx : x.ok = true) (hmk : ledOk m = true)
    (u0 : 0 ≤ u) (u1 : u ≤ 65535) (v0 : 0 ≤ v) (v1 : v ≤ 65535) :
    Calls Try.prog 12 #[.slice A l.length c, x.v, .int .u16 u, .int .u16 v] w fun e w' => e = .returned (.bool true) ∧ Below w.heap.size w w' := by
  have hl0 : l.length ≤ maxLen := by unfold maxLen; omega
  have hl1 : l.length ≤ 140737488355328 := by omega
  have hml : m.length = l.length + 1 := by rw [hm]; simp
  have hm1 : m.length ≤ 140737488355328 := by omega
  have HML := Lib.hid hml
  have HP := Lib.hid hp
  have HM := Lib.hid hm
  have d0 : 0 ≤ u % 367 ∧ u % 367 ≤ 366 := by omega
  have a0 : 100 ≤ 100 + v % 900 := by omega
  have a1 : 100 + v % 900 ≤ 999 := by omega
  obtain ⟨_, ⟨x1, x2⟩, ⟨x3, x4⟩, hne, ⟨x5, x6⟩, _⟩ := Entry.ok_iff.1 hx
  have HNE := Lib.hid hne
  clear hp hm hml hne
  go_enter Try.func12, Try.ntmps12
  go_wp2_with (first
    | (go_at_call 24; refine (head28_any _).mono ?_; rintro e w1 ⟨rfl, hb1⟩; have hz1 := hb1.size; (try simp only [World.size_alloc, World.size_setCell, World.size_drew, size_drewN', size_grow, size_redrawn] at hz1); obtain ⟨hc1, hf1⟩ := bcellB (B := w.heap.size + 1) hb1 (by first | omega | (simp only [World.size_alloc, World.size_setCell, World.size_drew, size_drewN', size_grow, size_redrawn]; omega)))
    | (go_at_call 37; refine (usable_any l A c _ (hs.up (by repeat' (first | (with_reducible exact Below.refl _ _) | (with_reducible assumption) | (with_reducible refine below_drewN ?_ _) | (with_reducible refine Below.drew ?_) | (with_reducible refine below_regrown_up _ _ ?_ ?_) | (with_reducible refine Below.alloc ?_ ?_ _) | (with_reducible refine Below.setCell ?_ ?_ _) | (with_reducible refine below_up ?_ ?_ (by assumption)) | (with_reducible exact Nat.le_refl _) | omega | (simp; done) | (simp; omega)))) hl0).mono ?_; rintro e w2 ⟨rfl, hb2⟩; have hz2 := hb2.size; (try simp only [World.size_alloc, World.size_setCell, World.size_drew, size_drewN', size_grow, size_redrawn] at hz2); obtain ⟨hc2, hf2⟩ := bcellB (B := w.heap.size + 1) hb2 (by first | omega | (simp only [World.size_alloc, World.size_setCell, World.size_drew, size_drewN', size_grow, size_redrawn]; omega)); rw [hus]))
  have hB1 : Below w.heap.size w w1 := (by repeat' (first | (with_reducible exact Below.refl _ _) | (with_reducible assumption) | (with_reducible refine below_drewN ?_ _) | (with_reducible refine Below.drew ?_) | (with_reducible refine below_regrown_up _ _ ?_ ?_) | (with_reducible refine Below.alloc ?_ ?_ _) | (with_reducible refine Below.setCell ?_ ?_ _) | (with_reducible refine below_up ?_ ?_ (by assumption)) | (with_reducible exact Nat.le_refl _) | omega | (simp; done) | (simp; omega)))
  have hB2 := below_up hB1 hB1.size hb2
  refine (post_lit HP.out A c _ (hs.up hB2) hl1).mono ?_
  rintro e w3 ⟨⟨A3, c3, rfl, hc3', hs3⟩, hb3⟩
  have hz3 := hb3.size
  obtain ⟨hc3, hf3⟩ := bcellB (B := w.heap.size + 1) hb3 (by omega)
  have hB3 := below_up hB2 hB2.size hb3
  go_wp2_with fail
  have hsa : SlInt (w3.alloc (.cells #[.int .i64 x.debit, .int .i64 x.credit, .int .i64 (100 + v % 900)] 3)) (some ⟨w3.heap.size, 0, none⟩) [x.debit, x.credit, 100 + v % 900] :=
    sl_of_box (cs := #[.int .i64 x.debit, .int .i64 x.credit, .int .i64 (100 + v % 900)]) (fun _ => rfl) (fun o => World.cell?_alloc_new w3 _ 3 o) (by simp) rfl
  have hacc : ∀ a ∈ [x.debit, x.credit, 100 + v % 900], 100 ≤ a ∧ a ≤ 999 := by simp; omega
  obtain ⟨acc, hac⟩ : ∃ acc, [x.debit, x.credit, 100 + v % 900] = acc := ⟨_, rfl⟩
  have hlen3 : acc.length = 3 := by rw [← hac]; rfl
  rw [hac] at hsa hacc
  have HL3 := Lib.hid hlen3
  have HACC := Lib.hid hacc
  clear hac hlen3 hacc
  have hbs : Below w.heap.size w (w3.alloc (.cells #[.int .i64 x.debit, .int .i64 x.credit, .int .i64 (100 + v % 900)] 3)) := hB3.alloc hB3.size _
  have hb34 : Below w3.heap.size w3 (w3.alloc (.cells #[.int .i64 x.debit, .int .i64 x.credit, .int .i64 (100 + v % 900)] 3)) := (Below.refl _ _).alloc (Nat.le_refl _) _
  refine name_world (fun w4 hw4 => ?_)
  rw [← hw4] at hsa hbs hb34
  have hz4 := hb34.size
  obtain ⟨hc4, hf4⟩ := bcellB (B := w.heap.size + 1) hb34 (by omega)
  have hg4 : w3.heap.size < w4.heap.size := by rw [hw4]; simp
  have HW4 := Lib.hid hw4
  clear hw4
  go_loopw [9, 52] (fun up i wr => ∃ j : Nat, j ≤ 3 ∧ i = .int .i64 j ∧ up = .bool true ∧ Below w4.heap.size w4 wr) (fun _ i _ => 3 - (intOf i).toNat)
  case atStart => exact ⟨0, by omega, rfl, rfl, Below.refl _ _⟩
  case round =>
    obtain ⟨j, hj, rfl, rfl, hbw⟩ := hrel
    have hbz := hbw.size
    have hB := below_up hbs hbs.size hbw
    obtain ⟨hcw, hfw⟩ := bcellB (B := w.heap.size + 1) hbw (by omega)
    by_cases hlt : j < 3
    · have hj3 : j < acc.length := by rw [HL3.out]; exact hlt
      obtain ⟨hbg, hcell⟩ := (hsa.up hbw).cells hj3
      have r0 := hcell 0 _ rfl
      rw [Nat.add_zero, Nat.mul_one, Nat.zero_add] at r0
      clear hcell
      have ha := HACC.out _ (List.getElem_mem hj3)
      generalize acc[j] = a at *
      obtain ⟨ha0, ha1⟩ := ha
      have hx4 : (0 : Int) ≤ (j : Int) := by omega
      have hx5 : (j : Int) < 3 := by omega
      have H1 := Lib.hid (balR_ok (a := a) hk ⟨ha0, ha1⟩ d0)
      have H2 := Lib.hid (balR_ok (a := a) hmk ⟨ha0, ha1⟩ d0)
      have hbd := bal_bd (fun z => z == a) (day := u % 367) hk
      have hone := bal_one (fun z => z == a) l x (u % 367)
      rw [← HM.out] at hone
      have HONE := Lib.hid hone
      obtain ⟨y1, y2⟩ := hbd
      clear hone
      generalize bal (fun z => z == a) l (u % 367) = S at *
      generalize bal (fun z => z == a) m (u % 367) = T at *
      by_cases t1 : x.day ≤ u % 367
      · have s1 : decide (x.day ≤ u % 367) = true := by simpa using t1
        by_cases t2 : x.debit = a
        · have t3 : ¬ x.credit = a := fun e => HNE.out (t2.trans e.symm)
          have s2 : (a == x.debit) = true := by simpa using t2.symm
          have s3 : (a == x.credit) = false := by rw [beq_eq_false_iff_ne]; exact fun e => t3 e.symm
          have hT : T = S + x.cents := by
            rw [HONE.out]
            unfold mv
            simp [t1, t2, t3]
          have HT := Lib.hid hT
          have HT1 := Lib.hid t1
          clear HONE t2 t3 hT
          go_wp2_with fail
          refine (bal_lit H1.out A c _ (hs.up hB) hl1).mono ?_
          rintro e w5 ⟨rfl, hb5⟩; have hz5 := hb5.size; (try simp only [World.size_alloc, World.size_setCell, World.size_drew, size_drewN', size_grow, size_redrawn] at hz5); obtain ⟨hc5, hf5⟩ := bcellB (B := w.heap.size + 1) hb5 (by first | omega | (simp only [World.size_alloc, World.size_setCell, World.size_drew, size_drewN', size_grow, size_redrawn]; omega))
          have hB5 := below_up hB hB.size hb5
          go_wp2_with fail
          refine (bal_lit H2.out A3 c3 _ ((hs3.up hb34).up (below_up hbw hbz hb5)) hm1).mono ?_
          rintro e w6 ⟨rfl, hb6⟩; have hz6 := hb6.size; (try simp only [World.size_alloc, World.size_setCell, World.size_drew, size_drewN', size_grow, size_redrawn] at hz6); obtain ⟨hc6, hf6⟩ := bcellB (B := w.heap.size + 1) hb6 (by first | omega | (simp only [World.size_alloc, World.size_setCell, World.size_drew, size_drewN', size_grow, size_redrawn]; omega))
          rw [HT.out]
          go_wp2_with fail
          go_roundw
          case rel => exact ⟨j + 1, by omega, by go_num, by simp, below_up hbw hbz (below_up hb5 hz5 hb6)⟩
          case measure => simp [intOf]; omega
        · have s2 : (a == x.debit) = false := by rw [beq_eq_false_iff_ne]; exact fun e => t2 e.symm
          by_cases t3 : x.credit = a
          · have s3 : (a == x.credit) = true := by simpa using t3.symm
            have hT : T = S + -x.cents := by
              rw [HONE.out]
              unfold mv
              simp [t1, t2, t3]
            have HT := Lib.hid hT
            have HT1 := Lib.hid t1
            clear HONE t2 t3 hT
            go_wp2_with fail
            refine (bal_lit H1.out A c _ (hs.up hB) hl1).mono ?_
            rintro e w5 ⟨rfl, hb5⟩; have hz5 := hb5.size; (try simp only [World.size_alloc, World.size_setCell, World.size_drew, size_drewN', size_grow, size_redrawn] at hz5); obtain ⟨hc5, hf5⟩ := bcellB (B := w.heap.size + 1) hb5 (by first | omega | (simp only [World.size_alloc, World.size_setCell, World.size_drew, size_drewN', size_grow, size_redrawn]; omega))
            have hB5 := below_up hB hB.size hb5
            go_wp2_with fail
            refine (bal_lit H2.out A3 c3 _ ((hs3.up hb34).up (below_up hbw hbz hb5)) hm1).mono ?_
            rintro e w6 ⟨rfl, hb6⟩; have hz6 := hb6.size; (try simp only [World.size_alloc, World.size_setCell, World.size_drew, size_drewN', size_grow, size_redrawn] at hz6); obtain ⟨hc6, hf6⟩ := bcellB (B := w.heap.size + 1) hb6 (by first | omega | (simp only [World.size_alloc, World.size_setCell, World.size_drew, size_drewN', size_grow, size_redrawn]; omega))
            rw [HT.out]
            go_wp2_with fail
            go_roundw
            case rel => exact ⟨j + 1, by omega, by go_num, by simp, below_up hbw hbz (below_up hb5 hz5 hb6)⟩
            case measure => simp [intOf]; omega
          · have s3 : (a == x.credit) = false := by rw [beq_eq_false_iff_ne]; exact fun e => t3 e.symm
            have hT : T = S + 0 := by
              rw [HONE.out]
              unfold mv
              simp [t1, t2, t3]
            have HT := Lib.hid hT
            have HT1 := Lib.hid t1
            clear HONE t2 t3 hT
            go_wp2_with fail
            refine (bal_lit H1.out A c _ (hs.up hB) hl1).mono ?_
            rintro e w5 ⟨rfl, hb5⟩; have hz5 := hb5.size; (try simp only [World.size_alloc, World.size_setCell, World.size_drew, size_drewN', size_grow, size_redrawn] at hz5); obtain ⟨hc5, hf5⟩ := bcellB (B := w.heap.size + 1) hb5 (by first | omega | (simp only [World.size_alloc, World.size_setCell, World.size_drew, size_drewN', size_grow, size_redrawn]; omega))
            have hB5 := below_up hB hB.size hb5
            go_wp2_with fail
            refine (bal_lit H2.out A3 c3 _ ((hs3.up hb34).up (below_up hbw hbz hb5)) hm1).mono ?_
            rintro e w6 ⟨rfl, hb6⟩; have hz6 := hb6.size; (try simp only [World.size_alloc, World.size_setCell, World.size_drew, size_drewN', size_grow, size_redrawn] at hz6); obtain ⟨hc6, hf6⟩ := bcellB (B := w.heap.size + 1) hb6 (by first | omega | (simp only [World.size_alloc, World.size_setCell, World.size_drew, size_drewN', size_grow, size_redrawn]; omega))
            rw [HT.out]
            go_wp2_with fail
            go_roundw
            case rel => exact ⟨j + 1, by omega, by go_num, by simp, below_up hbw hbz (below_up hb5 hz5 hb6)⟩
            case measure => simp [intOf]; omega
      · have s1 : decide (x.day ≤ u % 367) = false := by simpa using t1
        have hT : T = S + 0 := by
          rw [HONE.out, if_neg t1]
        have HT := Lib.hid hT
        have HT1 := Lib.hid t1
        clear HONE hT
        go_wp2_with fail
        refine (bal_lit H1.out A c _ (hs.up hB) hl1).mono ?_
        rintro e w5 ⟨rfl, hb5⟩; have hz5 := hb5.size; (try simp only [World.size_alloc, World.size_setCell, World.size_drew, size_drewN', size_grow, size_redrawn] at hz5); obtain ⟨hc5, hf5⟩ := bcellB (B := w.heap.size + 1) hb5 (by first | omega | (simp only [World.size_alloc, World.size_setCell, World.size_drew, size_drewN', size_grow, size_redrawn]; omega))
        have hB5 := below_up hB hB.size hb5
        go_wp2_with fail
        refine (bal_lit H2.out A3 c3 _ ((hs3.up hb34).up (below_up hbw hbz hb5)) hm1).mono ?_
        rintro e w6 ⟨rfl, hb6⟩; have hz6 := hb6.size; (try simp only [World.size_alloc, World.size_setCell, World.size_drew, size_drewN', size_grow, size_redrawn] at hz6); obtain ⟨hc6, hf6⟩ := bcellB (B := w.heap.size + 1) hb6 (by first | omega | (simp only [World.size_alloc, World.size_setCell, World.size_drew, size_drewN', size_grow, size_redrawn]; omega))
        rw [HT.out]
        go_wp2_with fail
        go_roundw
        case rel => exact ⟨j + 1, by omega, by go_num, by simp, below_up hbw hbz (below_up hb5 hz5 hb6)⟩
        case measure => simp [intOf]; omega
    · have hj3 : j = 3 := by omega
      subst hj3
      have hb3w : Below w3.heap.size w3 wr := below_up hb34 hz4 hbw
      have hsm := hs3.up hb3w
      have hsm2 := hsm.take l.length
      have hlm : l.length < m.length := by rw [HML.out]; omega
      have htk : m.take l.length = l := by rw [HM.out]; simp
      have hat : m[l.length] = x := by
        have := HM.out
        subst this
        simp
      obtain ⟨bm, om, rfl, hbm, hcell⟩ := hsm.at_ hlm
      rw [hat] at hcell
      have q0 := hcell 0 _ rfl
      have q1 := hcell 1 _ rfl
      have q2 := hcell 2 _ rfl
      have q3 := hcell 3 _ rfl
      have q4 := hcell 4 _ rfl
      rw [Nat.add_zero] at q0
      rw [htk] at hsm2
      have hlen1 : ((m.length : Int) == (l.length : Int) + 1) = true := by rw [beq_iff_eq, HML.out]; omega
      have hlen2 : (l.length : Int) < (m.length : Int) := by omega
      have hlen3 : (0 : Int) ≤ (l.length : Int) := by omega
      have hcap : l.length ≤ c3 := by have := hc3'; omega
      have hcap2 : (l.length : Int) ≤ (c3 : Int) := by omega
      have hwr : IntKind.i64.wrap ((l.length : Int) + 1) = (l.length : Int) + 1 := IntWalk.i64_in _ (by omega)
      have hlw : w.heap.size < wr.heap.size := by omega
      clear hcell hat htk
      go_wp2_with fail
      have hgr := regrown_cells wr (B := wr.heap.size) (by omega)
      refine wp_region_quiet_below (by kernel_rfl) (by kernel_rfl) ?_
      repeat (quiet_step ((first | (go_at_call 28; exact quiet_b (lvalid_any m _ c3 _ (hsm.up (by repeat' (first | (with_reducible exact Below.refl _ _) | (with_reducible assumption) | (with_reducible refine below_drewN ?_ _) | (with_reducible refine Below.drew ?_) | (with_reducible refine below_regrown_up _ _ ?_ ?_) | (with_reducible refine Below.alloc ?_ ?_ _) | (with_reducible refine Below.setCell ?_ ?_ _) | (with_reducible refine below_up ?_ ?_ (by assumption)) | (with_reducible exact Nat.le_refl _) | omega | (simp; done) | (simp; omega)))) hm1)) | (go_at_call 30; exact quiet_b (rsame_any l l _ _ c3 c _ (hsm2.up (by repeat' (first | (with_reducible exact Below.refl _ _) | (with_reducible assumption) | (with_reducible refine below_drewN ?_ _) | (with_reducible refine Below.drew ?_) | (with_reducible refine below_regrown_up _ _ ?_ ?_) | (with_reducible refine Below.alloc ?_ ?_ _) | (with_reducible refine Below.setCell ?_ ?_ _) | (with_reducible refine below_up ?_ ?_ (by assumption)) | (with_reducible exact Nat.le_refl _) | omega | (simp; done) | (simp; omega)))) (hs.up (by repeat' (first | (with_reducible exact Below.refl _ _) | (with_reducible assumption) | (with_reducible refine below_drewN ?_ _) | (with_reducible refine Below.drew ?_) | (with_reducible refine below_regrown_up _ _ ?_ ?_) | (with_reducible refine Below.alloc ?_ ?_ _) | (with_reducible refine Below.setCell ?_ ?_ _) | (with_reducible refine below_up ?_ ?_ (by assumption)) | (with_reducible exact Nat.le_refl _) | omega | (simp; done) | (simp; omega)))) hl1 hl1)))))
      refine wpQuiet_nil ?_
      intro _ hw'
      obtain ⟨⟨dq, osq⟩, hw''⟩ := hw'
      subst hw''
      have hb7 := below_regrown wr dq osq
      clear hgr
      generalize grow (redrawn wr dq) osq = w7 at hb7 ⊢
      have hz7 := hb7.size
      (try simp only [World.size_alloc, World.size_setCell, World.size_drew, size_drewN', size_grow, size_redrawn] at hz7)
      obtain ⟨hc7, hf7⟩ := bcellB (B := wr.heap.size) hb7 (by first | omega | (simp only [World.size_alloc, World.size_setCell, World.size_drew, size_drewN', size_grow, size_redrawn]; omega))
      go_wp2_with fail
      go_ret
      refine ⟨ret_bool (by simp), below_up hB hB.size hb7⟩
theorem law_posts (l : List Entry) (x : Entry) (A : Option Addr) (c : Nat) (u v : Int) (w : World) (hs : SlEnt w A l) (hl0 : l.length ≤ maxLen) (u0 : 0 ≤ u) (u1 : u ≤ 65535) (v0 : 0 ≤ v) (v1 : v ≤ 65535) :
    Calls Try.prog 12 #[.slice A l.length c, x.v, .int .u16 u, .int .u16 v] w fun e w' => e = .returned (.bool true) ∧ Below w.heap.size w w' := by
  by_cases h : (decide (l.length ≤ 60) && ledOk l) = true
  · have h' := h
    rw [Bool.and_eq_true, decide_eq_true_eq] at h'
    rcases postR_cases l x with ⟨_, hr⟩ | ⟨_, _, _, hr⟩ | ⟨_, _, _, _, hr⟩ | ⟨h1, h2, h3, h4, hr⟩
    · exact posts_1 l x A c u v w hs h'.1 h hr
    · exact posts_6 l x A c u v w hs h'.1 h hr
    · exact posts_2 l x A c u v w hs h'.1 h hr
    · exact posts_0 l _ x A c u v w hs h'.1 h rfl hr h1 h2 (ledOk_snoc h1 h2 h3 h4) u0 u1 v0 v1
  · exact posts_no l x A c u v w hs hl0 (by simpa using h)
end Go.Proofs.Ytdbdjhgcmcbiaaa
