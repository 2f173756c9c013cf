/-
  Texts, one behind the other: Dep3.
-/
import Derived.Test.YtmlhoojcdidgkaaGreatM11
/-
  Contract of package deposit: entries (a function literal that appends to a captured list).
-/
namespace Go.Proofs.YtmlhoojcdidgkaaGreat
set_option linter.unusedSimpArgs false
set_option linter.unusedVariables false
open Go.RowKit
open Go.Sort (grow size_grow)

set_option maxHeartbeats 4000000
set_option maxRecDepth 100000
def fromL (L : List Entry) (b : Bill) (a n day : Int) : List Entry := if 0 < n then L ++ [⟨day, 500 + b.stay % 100, a, n, b.stay⟩] else L
theorem from_any (a n day : Int) (b : Bill) (P D X base : Nat) (A : Option Addr) (c : Nat) (L : List Entry) (w : World)
    (hP : w.cell? ⟨P, 0, none⟩ = some (.slice A L.length c)) (fP : w.frozen? ⟨P, 0, none⟩ = false) (hD : w.cell? ⟨D, 0, none⟩ = some (.int .i64 day)) (hX : w.cell? ⟨X, 0, none⟩ = some (.int .i64 b.stay))
    (hown : OwnE w base (.slice A L.length c) L) (hbase : base ≤ w.heap.size) (P1 : P < base) (D1 : D < base) (X1 : X < base) (hL : L.length ≤ 10) (s0 : 0 ≤ b.stay) (s1 : b.stay ≤ 1000000) :
    Calls Tryz.prog 133 #[.int .i64 a, .int .i64 n, .pointer (some ⟨P, 0, none⟩), .pointer (some ⟨D, 0, none⟩), .pointer (some ⟨X, 0, none⟩)] w fun e w' => (∃ u, e = .returned u) ∧ ∃ A' c', w'.cell? ⟨P, 0, none⟩ = some (.slice A' (fromL L b a n day).length c') ∧ w'.frozen? ⟨P, 0, none⟩ = false ∧
      OwnE w' base (.slice A' (fromL L b a n day).length c') (fromL L b a n day) ∧ Touch (fun k => k = P ∨ (Value.slice A L.length c).ownBlock = some k) w w' := by
  have P2 : P < w.heap.size := by omega
  have D2 : D < w.heap.size := by omega
  have X2 : X < w.heap.size := by omega
  by_cases hn : 0 < n
  · go_enter Tryz.func133, Tryz.ntmps133
    go_wp2_with (at_builtin; go_loud (refine wpList_push _ rfl (.tmp 9) (.tmp 22) 45 60 rfl base 5 40 Entry.cs elemEnt ent_len ent_one _ L rfl (hown.alloc _) _ 1 (⟨day, 500 + b.stay % 100, a, n, b.stay⟩ : Entry) rfl (news_at _ _ _ rfl (by simp)) (by first | omega | (simp; done) | (simp; omega)) (by first | omega | (simp; done) | (simp; omega)) (by first | omega | (simp; done) | (simp; omega)) ?_); intro v2 w5 hown5 hgrow5; obtain ⟨A2, c2, rfl, _, _⟩ := hown5.form; have hb5 := below_push (e := 60) (size := 5) (enc := Entry.cs) (L := L) (B := base) (Below.refl base _) (hown.alloc _) hgrow5 (by first | omega | (simp; done) | (simp; omega)); have e1 := (hb5.cell (p := ⟨P, 0, none⟩) (by simpa using P1)).trans ((World.cell?_alloc_lt w _ ⟨P, 0, none⟩ P2).trans hP); have e2 := (hb5.frozen (p := ⟨P, 0, none⟩) (by simpa using P1)).trans ((World.frozen?_alloc_past _ P 0 P2).trans fP))
    go_end0
    have hf : fromL L b a n day = L ++ [⟨day, 500 + b.stay % 100, a, n, b.stay⟩] := by unfold fromL; rw [if_pos hn]
    rw [hf]
    refine ⟨⟨_, rfl⟩, A2, c2, ?_, ?_, ?_, ?_⟩
    · rw [List.length_append, List.length_singleton]; exact World.cell?_setCell_same _ _ _ e1
    · rw [World.frozen?_setCell]; exact e2
    · exact ownsRow_setCell_below (a := ⟨P, 0, none⟩) hown5 P1 _
    · refine Touch.setCell (((Touch.refl _ w).alloc _).trans (Touch.of_grownBy hgrow5 ?_)) (.inl rfl) _
      exact fun k hk _ => .inr hk
  · go_enter Tryz.func133, Tryz.ntmps133
    go_wp2_with fail
    go_end0
    have hf : fromL L b a n day = L := by unfold fromL; rw [if_neg (by omega)]
    rw [hf]
    exact ⟨⟨_, rfl⟩, A, c, hP, fP, hown, Touch.refl _ w⟩

theorem balR_nil (day : Int) : balR [] 900 day = (0, if inB day 0 366 = true then 0 else 1) := by
  unfold balR
  rw [ledOk_nil, show inB 900 100 999 = true by decide]
  cases inB day 0 366 <;> rfl
theorem bal_nil_any {day er : Int} (h : (if inB day 0 366 = true then (0 : Int) else 1) = er) (w : World) :
    Calls Tryz.prog 20 #[.slice none 0 0, .int .i64 900, .int .i64 day] w fun e w' => e = .returned (.tuple #[.int .i64 0, .int .i64 er]) ∧ Below w.heap.size w w' := by
  refine (lbalance_any [] none 0 900 day w Sl.nil_ (by simp)).mono ?_
  rintro e w' ⟨he, hb⟩
  rw [balR_nil, h] at he
  exact ⟨he, hb⟩
theorem entries_no (b : Bill) (paid day : Int) (w : World) (h : (!b.ok || !amt paid || !inB day 0 366) = true) :
    Calls Tryz.prog 128 #[b.v, .int .i64 paid, .int .i64 day] w fun e w' => RetE (entriesR b paid day) e w' ∧ Below w.heap.size w w' := by
  rw [entriesR_no h]
  cases h3 : inB day 0 366
  · have e3 : (if inB day 0 366 = true then (0 : Int) else 1) = 1 := by rw [h3]; rfl
    clear h3 h
    go_enter Tryz.func128, Tryz.ntmps128
    go_wp2_with (go_at_call 20; refine (bal_nil_any e3 _).mono ?_; rintro e w1 ⟨rfl, hb1⟩; have hz1 := hb1.size; (try simp only [World.size_alloc, World.size_setCell, World.size_drew, size_drewN', size_grow, size_redrawn] at hz1); obtain ⟨hc1, hf1⟩ := bcellB (B := w.heap.size + 1 + 1 + 1) hb1 (by first | omega | (simp only [World.size_alloc, World.size_setCell, World.size_drew, size_drewN', size_grow, size_redrawn]; omega)))
    go_ret2
    refine ⟨retE_nil, ?_⟩
    repeat' (first
      | (with_reducible exact Below.refl _ _)
      | (with_reducible assumption)
      | (with_reducible refine below_drewN ?_ _)
      | (with_reducible refine Below.drew ?_)
      | (with_reducible refine below_regrown_up _ _ ?_ ?_)
      | (with_reducible refine Below.alloc ?_ ?_ _)
      | (with_reducible refine Below.setCell ?_ ?_ _)
      | (with_reducible refine below_up ?_ ?_ (by assumption))
      | (with_reducible exact Nat.le_refl _)
      | omega
      | (simp; done)
      | (simp; omega))
  · have e3 : (if inB day 0 366 = true then (0 : Int) else 1) = 0 := by rw [h3]; rfl
    cases h1 : b.ok
    · clear h3 h
      go_enter Tryz.func128, Tryz.ntmps128
      go_wp2_with (first | (go_at_call 20; refine (bal_nil_any e3 _).mono ?_; rintro e w1 ⟨rfl, hb1⟩; have hz1 := hb1.size; (try simp only [World.size_alloc, World.size_setCell, World.size_drew, size_drewN', size_grow, size_redrawn] at hz1); obtain ⟨hc1, hf1⟩ := bcellB (B := w.heap.size + 1 + 1 + 1) hb1 (by first | omega | (simp only [World.size_alloc, World.size_setCell, World.size_drew, size_drewN', size_grow, size_redrawn]; omega))) | (go_at_call 130; refine (dright_any b _).mono ?_; rintro e w2 ⟨rfl, hb2⟩; have hz2 := hb2.size; (try simp only [World.size_alloc, World.size_setCell, World.size_drew, size_drewN', size_grow, size_redrawn] at hz2); obtain ⟨hc2, hf2⟩ := bcellB (B := w.heap.size + 1 + 1 + 1) hb2 (by first | omega | (simp only [World.size_alloc, World.size_setCell, World.size_drew, size_drewN', size_grow, size_redrawn]; omega))); rw [h1])
      go_ret2
      refine ⟨retE_nil, ?_⟩
      repeat' (first
        | (with_reducible exact Below.refl _ _)
        | (with_reducible assumption)
        | (with_reducible refine below_drewN ?_ _)
        | (with_reducible refine Below.drew ?_)
        | (with_reducible refine below_regrown_up _ _ ?_ ?_)
        | (with_reducible refine Below.alloc ?_ ?_ _)
        | (with_reducible refine Below.setCell ?_ ?_ _)
        | (with_reducible refine below_up ?_ ?_ (by assumption))
        | (with_reducible exact Nat.le_refl _)
        | omega
        | (simp; done)
        | (simp; omega))
    · have h2 : amt paid = false := by rw [h1, h3] at h; simpa using h
      clear h3 h
      go_enter Tryz.func128, Tryz.ntmps128
      go_wp2_with (first | (go_at_call 20; refine (bal_nil_any e3 _).mono ?_; rintro e w1 ⟨rfl, hb1⟩; have hz1 := hb1.size; (try simp only [World.size_alloc, World.size_setCell, World.size_drew, size_drewN', size_grow, size_redrawn] at hz1); obtain ⟨hc1, hf1⟩ := bcellB (B := w.heap.size + 1 + 1 + 1) hb1 (by first | omega | (simp only [World.size_alloc, World.size_setCell, World.size_drew, size_drewN', size_grow, size_redrawn]; omega))) | (go_at_call 130; refine (dright_any b _).mono ?_; rintro e w2 ⟨rfl, hb2⟩; have hz2 := hb2.size; (try simp only [World.size_alloc, World.size_setCell, World.size_drew, size_drewN', size_grow, size_redrawn] at hz2); obtain ⟨hc2, hf2⟩ := bcellB (B := w.heap.size + 1 + 1 + 1) hb2 (by first | omega | (simp only [World.size_alloc, World.size_setCell, World.size_drew, size_drewN', size_grow, size_redrawn]; omega))); rw [h1] | (go_at_call 131; refine (isAmount_any _ _).mono ?_; rintro e w' ⟨rfl, rfl⟩); rw [h2])
      go_ret2
      refine ⟨retE_nil, ?_⟩
      repeat' (first
        | (with_reducible exact Below.refl _ _)
        | (with_reducible assumption)
        | (with_reducible refine below_drewN ?_ _)
        | (with_reducible refine Below.drew ?_)
        | (with_reducible refine below_regrown_up _ _ ?_ ?_)
        | (with_reducible refine Below.alloc ?_ ?_ _)
        | (with_reducible refine Below.setCell ?_ ?_ _)
        | (with_reducible refine below_up ?_ ?_ (by assumption))
        | (with_reducible exact Nat.le_refl _)
        | omega
        | (simp; done)
        | (simp; omega))
theorem entries_ok (b : Bill) (paid day : Int) (w : World) (h1 : b.ok = true) (h2 : amt paid = true) (h3 : inB day 0 366 = true) :
    Calls Tryz.prog 128 #[b.v, .int .i64 paid, .int .i64 day] w fun e w' => RetE (entriesL b (paid - min paid b.keep) (min paid b.keep) day, 0) e w' ∧ Below w.heap.size w w' := by
  obtain ⟨_, _, _, ⟨s0, s1⟩, _, ⟨p0, p1⟩, _, _⟩ := Bill.ok_iff.1 h1
  have e3 : (if inB day 0 366 = true then (0 : Int) else 1) = 0 := by rw [h3]; rfl
  clear h3
  have hp := dparts_any b paid
  generalize paid - min paid b.keep = x at *
  generalize min paid b.keep = y at *
  go_enter Tryz.func128, Tryz.ntmps128
  go_wp2_with (first | (go_at_call 20; refine (bal_nil_any e3 _).mono ?_; rintro e w1 ⟨rfl, hb1⟩; have hz1 := hb1.size; (try simp only [World.size_alloc, World.size_setCell, World.size_drew, size_drewN', size_grow, size_redrawn] at hz1); obtain ⟨hc1, hf1⟩ := bcellB (B := w.heap.size + 1 + 1 + 1) hb1 (by first | omega | (simp only [World.size_alloc, World.size_setCell, World.size_drew, size_drewN', size_grow, size_redrawn]; omega))) | (go_at_call 130; refine (dright_any b _).mono ?_; rintro e w2 ⟨rfl, hb2⟩; have hz2 := hb2.size; (try simp only [World.size_alloc, World.size_setCell, World.size_drew, size_drewN', size_grow, size_redrawn] at hz2); obtain ⟨hc2, hf2⟩ := bcellB (B := w.heap.size + 1 + 1 + 1) hb2 (by first | omega | (simp only [World.size_alloc, World.size_setCell, World.size_drew, size_drewN', size_grow, size_redrawn]; omega))); rw [h1] | (go_at_call 131; refine (isAmount_any _ _).mono ?_; rintro e w' ⟨rfl, rfl⟩); rw [h2] | (go_at_call 132; refine (hp _ h2 h1).mono ?_; rintro e w3 ⟨rfl, hb3⟩; have hz3 := hb3.size; (try simp only [World.size_alloc, World.size_setCell, World.size_drew, size_drewN', size_grow, size_redrawn] at hz3); obtain ⟨hc3, hf3⟩ := bcellB (B := w.heap.size + 1 + 1 + 1) hb3 (by first | omega | (simp only [World.size_alloc, World.size_setCell, World.size_drew, size_drewN', size_grow, size_redrawn]; omega)); have la3a : w.heap.size < w3.heap.size := (by omega); have lb3a : w.heap.size < w3.heap.size + 1 := (by omega); have lc3a : w.heap.size < w3.heap.size + 1 + 1 := (by omega); have ld3a : w.heap.size < w3.heap.size + 1 + 1 + 1 := (by omega); have le3a : w.heap.size < w3.heap.size + 1 + 1 + 1 + 1 := (by omega); have la3b : w.heap.size + 1 < w3.heap.size := (by omega); have lb3b : w.heap.size + 1 < w3.heap.size + 1 := (by omega); have lc3b : w.heap.size + 1 < w3.heap.size + 1 + 1 := (by omega); have ld3b : w.heap.size + 1 < w3.heap.size + 1 + 1 + 1 := (by omega); have le3b : w.heap.size + 1 < w3.heap.size + 1 + 1 + 1 + 1 := (by omega); have la3c : w.heap.size + 1 + 1 < w3.heap.size := (by omega); have lb3c : w.heap.size + 1 + 1 < w3.heap.size + 1 := (by omega); have lc3c : w.heap.size + 1 + 1 < w3.heap.size + 1 + 1 := (by omega); have ld3c : w.heap.size + 1 + 1 < w3.heap.size + 1 + 1 + 1 := (by omega); have le3c : w.heap.size + 1 + 1 < w3.heap.size + 1 + 1 + 1 + 1 := (by omega)))
  have s0' : 0 ≤ b.stay := by omega
  refine (from_any (300 + b.place) y day b (w3.heap.size + 1) (w.heap.size + 1) (w.heap.size + 1 + 1) (w3.heap.size + 1 + 1) none 0 [] _ (by go_simp) (by go_simp) (by go_simp) (by go_simp) OwnL.nil_ (by simp) (by omega) (by omega) (by omega) (by simp) s0' s1).mono ?_
  rintro e w4 ⟨⟨u, rfl⟩, A4, c4, hP4, fP4, hown4, ht4⟩
  have hz4 := ht4.size
  rw [World.size_alloc, World.size_alloc] at hz4
  have hS : ∀ k, k < w3.heap.size + 1 → ¬ (k = w3.heap.size + 1 ∨ (Value.slice none ([] : List Entry).length 0).ownBlock = some k) := fun k hk e => by
    rcases e with e | e
    · omega
    · cases e
  have q0 : w4.cell? ⟨w3.heap.size, 0, none⟩ = some (.int .i64 x) := ht4.cell (hS _ (by simp)) (by go_simp)
  have q1 : w4.cell? ⟨w.heap.size + 1, 0, none⟩ = some (.int .i64 day) := ht4.cell (hS _ (by simp only; omega)) (by go_simp)
  have q2 : w4.cell? ⟨w.heap.size + 1 + 1, 0, none⟩ = some (.int .i64 b.stay) := ht4.cell (hS _ (by simp only; omega)) (by go_simp)
  have hfl : (fromL [] b (300 + b.place) y day).length ≤ 1 := by unfold fromL; split <;> simp
  have hall : fromL (fromL [] b (300 + b.place) y day) b 900 x day = entriesL b x y day := by
    unfold fromL entriesL keptE backE
    split <;> split <;> simp
  have hb4 : Below w.heap.size w w4 := by
    have h1 := ht4.below (n := w.heap.size) (by simp; omega) (fun k hk => by
      rcases hk with e | e
      · omega
      · cases e)
    have h2 : Below w.heap.size w ((w3.alloc (.cells #[.int .i64 x, .int .i64 y] 81)).alloc (.cells #[.slice none 0 0] 45)) := by
      repeat' (first
        | (with_reducible exact Below.refl _ _)
        | (with_reducible assumption)
        | (with_reducible refine below_drewN ?_ _)
        | (with_reducible refine Below.drew ?_)
        | (with_reducible refine below_regrown_up _ _ ?_ ?_)
        | (with_reducible refine Below.alloc ?_ ?_ _)
        | (with_reducible refine Below.setCell ?_ ?_ _)
        | (with_reducible refine below_up ?_ ?_ (by assumption))
        | (with_reducible exact Nat.le_refl _)
        | omega
        | (simp; done)
        | (simp; omega))
    exact h2.trans h1
  clear ht4 hS
  generalize fromL [] b (300 + b.place) y day = L4 at *
  have HALL := Lib.hid hall
  clear hall
  go_wp2_with fail
  refine (from_any 900 x day b (w3.heap.size + 1) (w.heap.size + 1) (w.heap.size + 1 + 1) (w3.heap.size + 1 + 1) A4 c4 L4 w4 hP4 fP4 q1 q2 hown4 (by omega) (by omega) (by omega) (by omega) (by omega) s0' s1).mono ?_
  rintro e w5 ⟨⟨u, rfl⟩, A5, c5, hP5, fP5, hown5, ht5⟩
  rw [HALL.out] at hP5 hown5
  have hb5 : Below w.heap.size w w5 := by
    refine hb4.trans (ht5.below (n := w.heap.size) (by omega) (fun k hk => ?_))
    rcases hk with e | e
    · omega
    · have := (hown4.lt k e).1; omega
  obtain ⟨A6, c6, he, hc6, _, hsl6⟩ := hown5.sl ent_len
  injection he with e1 e2 e3
  subst e1 e3
  clear ht5 HALL
  obtain ⟨m, hm⟩ : ∃ m, entriesL b x y day = m := ⟨_, rfl⟩
  rw [hm] at hP5 hc6 hsl6
  clear hown5
  have HM := Lib.hid hm
  clear hm
  go_wp2_with fail
  go_ret2
  rw [HM.out]
  exact ⟨⟨A5, c5, rfl, hc6, hsl6⟩, hb5⟩
theorem entries_any (b : Bill) (paid day : Int) (w : World) :
    Calls Tryz.prog 128 #[b.v, .int .i64 paid, .int .i64 day] w fun e w' => RetE (entriesR b paid day) e w' ∧ Below w.heap.size w w' := by
  by_cases h : (!b.ok || !amt paid || !inB day 0 366) = true
  · exact entries_no b paid day w h
  · have h' : (b.ok = true ∧ amt paid = true) ∧ inB day 0 366 = true := by simpa using h
    rw [entriesR_ok h'.1.1 h'.1.2 h'.2]
    exact entries_ok b paid day w h'.1.1 h'.1.2 h'.2
end Go.Proofs.YtmlhoojcdidgkaaGreat
