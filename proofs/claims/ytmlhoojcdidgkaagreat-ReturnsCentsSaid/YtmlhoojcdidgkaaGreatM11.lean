/-
  Texts, one behind the other: Led11, Led12, Com3, DepP, FoP, Com4, Com5.
-/
import Derived.Test.YtmlhoojcdidgkaaGreatM10
import Derived.Deep.DeepCutAuto
import Derived.Test.YtmlhoojcdidgkaaGreatM09
import Derived.Test.YtmlhoojcdidgkaaGreatM05
import Derived.Test.YtmlhoojcdidgkaaGreatM06
import Derived.Test.YtmlhoojcdidgkaaGreatM04
/-
  Contracts of package ledger: undoing.
-/
namespace Go.Proofs.YtmlhoojcdidgkaaGreat
set_option linter.unusedSimpArgs false
set_option linter.unusedVariables false
open Go.RowKit
open Go.Sort (grow size_grow)

set_option maxHeartbeats 1000000
set_option maxRecDepth 100000
theorem undoR_cases (l : List Entry) (ref day : Int) : ((!ledOk l || !inB ref 1 1000000 || !inB day 0 366) = true ∧ undoR l ref day = ([], 1)) ∨ (ledOk l = true ∧ inB ref 1 1000000 = true ∧ inB day 0 366 = true ∧ ((begun l day = true ∧ undoR l ref day = ([], 6)) ∨
    (begun l day = false ∧ openE l ref = [] ∧ undoR l ref day = ([], 4)) ∨ (begun l day = false ∧ openE l ref ≠ [] ∧ 5000 < l.length + (openE l ref).length ∧ undoR l ref day = ([], 2)) ∨
    (begun l day = false ∧ openE l ref ≠ [] ∧ l.length + (openE l ref).length ≤ 5000 ∧ undoR l ref day = (l ++ (openE l ref).map (undone day), 0)))) := by
  unfold undoR
  by_cases h1 : (!ledOk l || !inB ref 1 1000000 || !inB day 0 366) = true
  · rw [if_pos h1]; exact .inl ⟨h1, rfl⟩
  · rw [if_neg h1]
    have h2 : (ledOk l = true ∧ inB ref 1 1000000 = true) ∧ inB day 0 366 = true := by simpa using h1
    refine .inr ⟨h2.1.1, h2.1.2, h2.2, ?_⟩
    by_cases hb : begun l day = true
    · rw [if_pos hb]; exact .inl ⟨hb, rfl⟩
    · rw [if_neg hb]
      have hb' : begun l day = false := by simpa using hb
      by_cases ho : openE l ref = []
      · rw [if_pos ho]; exact .inr (.inl ⟨hb', ho, rfl⟩)
      · rw [if_neg ho]
        by_cases h5 : 5000 < l.length + (openE l ref).length
        · rw [if_pos h5]; exact .inr (.inr (.inl ⟨hb', ho, h5, rfl⟩))
        · rw [if_neg h5]; exact .inr (.inr (.inr ⟨hb', ho, by omega, rfl⟩))
theorem undone_snoc {l r : List Entry} {day : Int} {k : Nat} (h : k < r.length) : l ++ (r.take (k + 1)).map (undone day) = (l ++ (r.take k).map (undone day)) ++ [undone day r[k]] := by
  rw [List.take_succ_eq_append_getElem h, List.map_append, List.append_assoc]
  rfl
theorem undo_any (l : List Entry) (A : Option Addr) (c : Nat) (ref day : Int) (w : World) (hs : SlEnt w A l) (hl : l.length ≤ 140737488355328) :
    Calls Tryz.prog 23 #[.slice A l.length c, .int .i64 ref, .int .i64 day] w fun e w' => RetE (undoR l ref day) e w' ∧ Below w.heap.size w w' := by
  rcases undoR_cases l ref day with ⟨h1, hr⟩ | ⟨h1, h2, h3, ⟨h4, hr⟩ | ⟨h4, h5, hr⟩ | ⟨h4, h5, h6, hr⟩ | ⟨h4, h5, h6, hr⟩⟩
  · cases g1 : ledOk l <;> cases g2 : inB ref 1 1000000 <;> cases g3 : inB day 0 366
    case true.true.true => rw [g1, g2, g3] at h1; simp at h1
    all_goals
      rw [hr]
      clear h1 hr
      go_enter Tryz.func23, Tryz.ntmps23
      go_wp2_with (first | (go_at_call 35; refine (lvalid_any l A c _ hs hl).mono ?_; rintro e w1 ⟨rfl, hb1⟩; have hz1 := hb1.size; (try simp only [World.size_alloc, World.size_setCell, World.size_drew, size_drewN', size_grow, size_redrawn] at hz1); obtain ⟨hc1, hf1⟩ := bcellB (B := w.heap.size) hb1 (by first | omega | (simp only [World.size_alloc, World.size_setCell, World.size_drew, size_drewN', size_grow, size_redrawn]; omega))); rw [g1] | (go_at_call 55; refine (led_within_any _ _ _ _).mono ?_; rintro e w2 ⟨rfl, rfl⟩) | (go_at_call 49; refine (isDay_any _ _).mono ?_; rintro e w2 ⟨rfl, rfl⟩))
      go_ret2
      exact ⟨retE_nil, hb1⟩
  · have HR := Lib.hid hr
    clear hr
    go_enter Tryz.func23, Tryz.ntmps23
    go_wp2_with (first | (go_at_call 35; refine (lvalid_any l A c _ hs hl).mono ?_; rintro e w1 ⟨rfl, hb1⟩; have hz1 := hb1.size; (try simp only [World.size_alloc, World.size_setCell, World.size_drew, size_drewN', size_grow, size_redrawn] at hz1); obtain ⟨hc1, hf1⟩ := bcellB (B := w.heap.size) hb1 (by first | omega | (simp only [World.size_alloc, World.size_setCell, World.size_drew, size_drewN', size_grow, size_redrawn]; omega))); rw [h1] | (go_at_call 55; refine (led_within_any _ _ _ _).mono ?_; rintro e w2 ⟨rfl, rfl⟩) | (go_at_call 49; refine (isDay_any _ _).mono ?_; rintro e w2 ⟨rfl, rfl⟩) | (go_at_call 52; refine (begun_any l A c day _ (hs.up hb1) hl).mono ?_; rintro e w' ⟨rfl, rfl⟩); rw [h4])
    go_ret2
    refine ⟨by rw [HR.out]; exact retE_nil, ?_⟩
    repeat' (first
      | (with_reducible exact Below.refl _ _)
      | (with_reducible assumption)
      | (with_reducible refine below_drewN ?_ _)
      | (with_reducible refine Below.drew ?_)
      | (with_reducible refine below_regrown_up _ _ ?_ ?_)
      | (with_reducible refine Below.alloc ?_ ?_ _)
      | (with_reducible refine Below.setCell ?_ ?_ _)
      | (with_reducible refine below_up ?_ ?_ (by assumption))
      | (with_reducible exact Nat.le_refl _)
      | omega
      | (simp; done)
      | (simp; omega))
  · have HR := Lib.hid hr
    have hl5 := (ledOk_iff.1 h1).1
    clear hr
    go_enter Tryz.func23, Tryz.ntmps23
    go_wp2_with (first | (go_at_call 35; refine (lvalid_any l A c _ hs hl).mono ?_; rintro e w1 ⟨rfl, hb1⟩; have hz1 := hb1.size; (try simp only [World.size_alloc, World.size_setCell, World.size_drew, size_drewN', size_grow, size_redrawn] at hz1); obtain ⟨hc1, hf1⟩ := bcellB (B := w.heap.size) hb1 (by first | omega | (simp only [World.size_alloc, World.size_setCell, World.size_drew, size_drewN', size_grow, size_redrawn]; omega))); rw [h1] | (go_at_call 55; refine (led_within_any _ _ _ _).mono ?_; rintro e w2 ⟨rfl, rfl⟩) | (go_at_call 49; refine (isDay_any _ _).mono ?_; rintro e w2 ⟨rfl, rfl⟩) | (go_at_call 52; refine (begun_any l A c day _ (hs.up hb1) hl).mono ?_; rintro e w' ⟨rfl, rfl⟩); rw [h4] | (go_at_call 56; refine (open_any l A c ref _ (hs.up hb1) hl5).mono ?_; rintro e w3 ⟨⟨v3, rfl, hown3⟩, hb3⟩; obtain ⟨A3, c3, rfl, hc3, _, hsl3⟩ := hown3.sl ent_len; have hz3 := hb3.size))
    all_goals
      go_ret2
      refine ⟨by rw [HR.out]; exact retE_nil, ?_⟩
      repeat' (first
        | (with_reducible exact Below.refl _ _)
        | (with_reducible assumption)
        | (with_reducible refine below_drewN ?_ _)
        | (with_reducible refine Below.drew ?_)
        | (with_reducible refine below_regrown_up _ _ ?_ ?_)
        | (with_reducible refine Below.alloc ?_ ?_ _)
        | (with_reducible refine Below.setCell ?_ ?_ _)
        | (with_reducible refine below_up ?_ ?_ (by assumption))
        | (with_reducible exact Nat.le_refl _)
        | omega
        | (simp; done)
        | (simp; omega))
  · have HR := Lib.hid hr
    have hl5 := (ledOk_iff.1 h1).1
    have hpos : 0 < (openE l ref).length := by rcases hx : openE l ref with _ | ⟨x, y⟩; exact absurd hx h5; simp
    have hp2 : ((openE l ref).length == 0) = false := by rw [beq_eq_false_iff_ne]; omega
    have hp3 : (((openE l ref).length : Int) == 0) = false := by rw [beq_eq_false_iff_ne]; omega
    have hp4 : (5000 : Int) < (l.length : Int) + ((openE l ref).length : Int) := by omega
    have hle := openE_le l ref
    clear hr h5
    go_enter Tryz.func23, Tryz.ntmps23
    go_wp2_with (first | (go_at_call 35; refine (lvalid_any l A c _ hs hl).mono ?_; rintro e w1 ⟨rfl, hb1⟩; have hz1 := hb1.size; (try simp only [World.size_alloc, World.size_setCell, World.size_drew, size_drewN', size_grow, size_redrawn] at hz1); obtain ⟨hc1, hf1⟩ := bcellB (B := w.heap.size) hb1 (by first | omega | (simp only [World.size_alloc, World.size_setCell, World.size_drew, size_drewN', size_grow, size_redrawn]; omega))); rw [h1] | (go_at_call 55; refine (led_within_any _ _ _ _).mono ?_; rintro e w2 ⟨rfl, rfl⟩) | (go_at_call 49; refine (isDay_any _ _).mono ?_; rintro e w2 ⟨rfl, rfl⟩) | (go_at_call 52; refine (begun_any l A c day _ (hs.up hb1) hl).mono ?_; rintro e w' ⟨rfl, rfl⟩); rw [h4] | (go_at_call 56; refine (open_any l A c ref _ (hs.up hb1) hl5).mono ?_; rintro e w3 ⟨⟨v3, rfl, hown3⟩, hb3⟩; obtain ⟨A3, c3, rfl, hc3, _, hsl3⟩ := hown3.sl ent_len; have hz3 := hb3.size))
    all_goals
      go_ret2
      refine ⟨by rw [HR.out]; exact retE_nil, ?_⟩
      repeat' (first
        | (with_reducible exact Below.refl _ _)
        | (with_reducible assumption)
        | (with_reducible refine below_drewN ?_ _)
        | (with_reducible refine Below.drew ?_)
        | (with_reducible refine below_regrown_up _ _ ?_ ?_)
        | (with_reducible refine Below.alloc ?_ ?_ _)
        | (with_reducible refine Below.setCell ?_ ?_ _)
        | (with_reducible refine below_up ?_ ?_ (by assumption))
        | (with_reducible exact Nat.le_refl _)
        | omega
        | (simp; done)
        | (simp; omega))
  · have HR := Lib.hid hr
    have hl5 := (ledOk_iff.1 h1).1
    have hpos : 0 < (openE l ref).length := by rcases hx : openE l ref with _ | ⟨x, y⟩; exact absurd hx h5; simp
    have hp2 : ((openE l ref).length == 0) = false := by rw [beq_eq_false_iff_ne]; omega
    have hp3 : (((openE l ref).length : Int) == 0) = false := by rw [beq_eq_false_iff_ne]; omega
    have hp4 : (l.length : Int) + ((openE l ref).length : Int) ≤ 5000 := by omega
    have hle := openE_le l ref
    clear hr h5
    generalize hrr : openE l ref = r at *
    have HRR := Lib.hid hrr
    clear hrr
    go_enter Tryz.func23, Tryz.ntmps23
    go_wp2_with (first | (go_at_call 35; refine (lvalid_any l A c _ hs hl).mono ?_; rintro e w1 ⟨rfl, hb1⟩; have hz1 := hb1.size; (try simp only [World.size_alloc, World.size_setCell, World.size_drew, size_drewN', size_grow, size_redrawn] at hz1); obtain ⟨hc1, hf1⟩ := bcellB (B := w.heap.size) hb1 (by first | omega | (simp only [World.size_alloc, World.size_setCell, World.size_drew, size_drewN', size_grow, size_redrawn]; omega))); rw [h1] | (go_at_call 55; refine (led_within_any _ _ _ _).mono ?_; rintro e w2 ⟨rfl, rfl⟩) | (go_at_call 49; refine (isDay_any _ _).mono ?_; rintro e w2 ⟨rfl, rfl⟩) | (go_at_call 52; refine (begun_any l A c day _ (hs.up hb1) hl).mono ?_; rintro e w' ⟨rfl, rfl⟩); rw [h4] | (go_at_call 56; refine (open_any l A c ref _ (hs.up hb1) hl5).mono ?_; rintro e w3 ⟨⟨v3, rfl, hown3⟩, hb3⟩; rw [HRR.out] at hown3; obtain ⟨A3, c3, rfl, hc3, _, hsl3⟩ := hown3.sl ent_len; have hz3 := hb3.size) | (go_at_call 53; refine (clone_any l A c _ w3.heap.size (hs.up (by repeat' (first | (with_reducible exact Below.refl _ _) | (with_reducible assumption) | (with_reducible refine below_drewN ?_ _) | (with_reducible refine Below.drew ?_) | (with_reducible refine below_regrown_up _ _ ?_ ?_) | (with_reducible refine Below.alloc ?_ ?_ _) | (with_reducible refine Below.setCell ?_ ?_ _) | (with_reducible refine below_up ?_ ?_ (by assumption)) | (with_reducible exact Nat.le_refl _) | omega | (simp; done) | (simp; omega)))) (by omega) (Nat.le_refl _)).mono ?_; rintro e w4 ⟨⟨A4, c4, rfl, hown4⟩, hb4⟩; have hz4 := hb4.size))
    have hb03 : Below w.heap.size w w3 := (by repeat' (first | (with_reducible exact Below.refl _ _) | (with_reducible assumption) | (with_reducible refine below_drewN ?_ _) | (with_reducible refine Below.drew ?_) | (with_reducible refine below_regrown_up _ _ ?_ ?_) | (with_reducible refine Below.alloc ?_ ?_ _) | (with_reducible refine Below.setCell ?_ ?_ _) | (with_reducible refine below_up ?_ ?_ (by assumption)) | (with_reducible exact Nat.le_refl _) | omega | (simp; done) | (simp; omega)))
    go_loopw [9, 48] (fun v i wr => ∃ m : Nat, m ≤ r.length ∧ i = .int .i64 m ∧ OwnE wr w3.heap.size v (l ++ (r.take m).map (undone day)) ∧ Below w3.heap.size w3 wr) (fun _ i _ => r.length - (intOf i).toNat)
    case atStart => exact ⟨0, by omega, rfl, by simpa using hown4, hb4⟩
    case round =>
      obtain ⟨m, hm, rfl, hown, hbw⟩ := hrel
      have hbz := hbw.size
      have hb0w := below_up hb03 (by omega) hbw
      by_cases hlt : m < r.length
      · have hx1 : (m : Int) < (r.length : Int) := by omega
        have hx4 : (0 : Int) ≤ (m : Int) := by omega
        obtain ⟨b, off, rfl, hbl, hcell⟩ := (hsl3.up hbw).at_ hlt
        have q0 := hcell 0 _ rfl
        have q1 := hcell 1 _ rfl
        have q2 := hcell 2 _ rfl
        have q3 := hcell 3 _ rfl
        have q4 := hcell 4 _ rfl
        rw [Nat.add_zero] at q0
        clear hcell
        have hsn := undone_snoc (l := l) (day := day) hlt
        have hlen : (l ++ (r.take m).map (undone day)).length ≤ 5000 := by simp; omega
        generalize hout : l ++ (r.take m).map (undone day) = out at *
        clear hout
        have HSN := Lib.hid hsn
        clear hsn
        go_upto_region 16 with (go_at_call 57; refine (turned_any r[m] _).mono ?_; unfold turned; rintro e w5 ⟨rfl, hb5⟩; have hz5 := hb5.size; (try simp only [World.size_alloc, World.size_setCell, World.size_drew, size_drewN', size_grow, size_redrawn] at hz5); obtain ⟨hc5, hf5⟩ := bcellB (B := wr.heap.size + 1) hb5 (by first | omega | (simp only [World.size_alloc, World.size_setCell, World.size_drew, size_drewN', size_grow, size_redrawn]; omega)))
        refine name_world (fun w6 hw6 => ?_)
        have hb6 : Below wr.heap.size wr w6 := by
          rw [hw6]
          repeat' (first
            | (with_reducible exact Below.refl _ _)
            | (with_reducible assumption)
            | (with_reducible refine below_drewN ?_ _)
            | (with_reducible refine Below.drew ?_)
            | (with_reducible refine below_regrown_up _ _ ?_ ?_)
            | (with_reducible refine Below.alloc ?_ ?_ _)
            | (with_reducible refine Below.setCell ?_ ?_ _)
            | (with_reducible refine below_up ?_ ?_ (by assumption))
            | (with_reducible exact Nat.le_refl _)
            | omega
            | (simp; done)
            | (simp; omega))
        have c5 : ∀ o, w5.cell? ⟨wr.heap.size, o, none⟩ = (#[.int .i64 r[m].day, .int .i64 r[m].debit, .int .i64 r[m].credit, .int .i64 r[m].cents, .int .i64 r[m].ref] : Array Value)[o]? := box_below hb5 (by simp) (box_new wr _ _)
        have c6 : ∀ o, w6.cell? ⟨wr.heap.size, o, none⟩ = (#[.int .i64 day, .int .i64 r[m].credit, .int .i64 r[m].debit, .int .i64 r[m].cents, .int .i64 r[m].ref] : Array Value)[o]? := by
          rw [hw6]
          exact box_set (box_set (box_set (box_set (box_set (box_set c5 (i := 0) (by simp) _) (i := 1) (by simp) _) (i := 2) (by simp) _) (i := 3) (by simp) _) (i := 4) (by simp) _) (i := 0) (by simp) _
        have hz6 := hb6.size
        have hlt6 : wr.heap.size < w6.heap.size := by
          rw [hw6]
          simp
          omega
        have hown6 := hown.below hb6
        have HW6 := Lib.hid hw6
        clear hw6 c5 hc5 hf5 hb5 hz5
        go_wp2_with (at_builtin; go_loud (refine wpList_push _ rfl (.tmp 56) (.tmp 58) 45 60 rfl w3.heap.size 5 40 Entry.cs elemEnt ent_len ent_one _ out rfl (hown6.alloc _) _ 1 (undone day r[m]) rfl (news_new _ _ _ _ rfl) (by first | omega | (simp; done) | (simp; omega)) (by first | omega | (simp; done) | (simp; omega)) (by first | omega | (simp; done) | (simp; omega)) ?_); intro v2 w7 hown7 hgrow7)
        have hb7 : Below w3.heap.size w3 w7 := below_push ((below_up hbw (by omega) hb6).alloc (by omega) _) (hown6.alloc _) hgrow7 (by first | omega | (simp; done) | (simp; omega))
        go_roundw
        case rel =>
          refine ⟨m + 1, by omega, by go_num, ?_, hb7⟩
          rw [HSN.out]
          exact hown7
        case measure => simp [intOf]; omega
      · obtain rfl : m = r.length := by omega
        rw [List.take_of_length_le (Nat.le_refl _)] at hown
        obtain ⟨A5, c5, rfl, _, _⟩ := hown.form
        go_wp2
        go_ret2
        refine ⟨by rw [HR.out]; exact retE_own hown, ?_⟩
        repeat' (first
          | (with_reducible exact Below.refl _ _)
          | (with_reducible assumption)
          | (with_reducible refine below_drewN ?_ _)
          | (with_reducible refine Below.drew ?_)
          | (with_reducible refine below_regrown_up _ _ ?_ ?_)
          | (with_reducible refine Below.alloc ?_ ?_ _)
          | (with_reducible refine Below.setCell ?_ ?_ _)
          | (with_reducible refine below_up ?_ ?_ (by assumption))
          | (with_reducible exact Nat.le_refl _)
          | omega
          | (simp; done)
          | (simp; omega))
end Go.Proofs.YtmlhoojcdidgkaaGreat

/-
  Contracts of the reference of package ledger: open entries; undoing.
-/
namespace Go.Proofs.YtmlhoojcdidgkaaGreat
set_option linter.unusedSimpArgs false
set_option linter.unusedVariables false
open Go.RowKit
open Go.Sort (grow size_grow)

set_option maxHeartbeats 4000000
set_option maxRecDepth 100000
section
variable {α : Type} {w : World} {B size : Nat} {enc : α → List Value} {A : Option Addr} {l : List α}
theorem Sl.drewN (h : Sl w B size enc A l) (n : Nat) : Sl (w.drewN n) B size enc A l := h
theorem Sl.take (h : Sl w B size enc A l) (k : Nat) : Sl w B size enc A (l.take k) := fun hne => by
  have hl : l ≠ [] := by rintro rfl; simp at hne
  obtain ⟨b, off, e, hb, hc⟩ := h hl
  refine ⟨b, off, e, hb, fun j hj r v hv => ?_⟩
  rw [List.length_take] at hj
  rw [List.getElem_take] at hv
  exact hc j (by omega) r v hv
theorem Sl.drop {b off : Nat} (h : Sl w B size enc (some ⟨b, off, none⟩) l) (k : Nat) : Sl w B size enc (some ⟨b, off + k * size, none⟩) (l.drop k) := fun hne => by
  have hl : l ≠ [] := by rintro rfl; simp at hne
  obtain ⟨b', off', e, hb, hc⟩ := h hl
  injection e with e
  injection e with e1 e2
  subst e1 e2
  refine ⟨b, off + k * size, rfl, hb, fun j hj r v hv => ?_⟩
  rw [List.length_drop] at hj
  rw [List.getElem_drop] at hv
  have := hc (k + j) (by omega) r v hv
  rw [show off + k * size + j * size + r = off + (k + j) * size + r by rw [Nat.add_mul]; omega]
  exact this
/-- 's[k:]' of a slice that reads as a list. -/
theorem Sl.cut {b off cap : Nat} (h : Sl w B size enc (some ⟨b, off, none⟩) l) (k : Nat) (hcap : l.length ≤ cap) : ∃ A', (if cap = k then some (⟨b, off, none⟩ : Addr) else some ⟨b, off + k * size, none⟩) = A' ∧ Sl w B size enc A' (l.drop k) := by
  by_cases hk : cap = k
  · refine ⟨some ⟨b, off, none⟩, by rw [if_pos hk], ?_⟩
    have : l.drop k = [] := List.drop_eq_nil_of_le (by omega)
    rw [this]
    exact Sl.nil_
  · exact ⟨_, by rw [if_neg hk], h.drop k⟩
end
theorem news_at {w : World} {n : Nat} (cs : Array Value) (t : TypeId) (l : List Value) (h : cs = l.toArray) (hn : n = w.heap.size) : ∀ (j : Nat) (u : Value), l[j]? = some u → (w.alloc (.cells cs t)).cell? ⟨n, j, none⟩ = some u := by subst hn; exact news_new w cs t l h
theorem openStep_refs {ref : Int} {out : List Entry} {e : Entry} (h : ∀ x ∈ out, x.ref = ref) : ∀ x ∈ openStep ref out e, x.ref = ref := by
  unfold openStep
  split
  · exact h
  · rename_i hr
    split
    · intro x hx
      exact h x (List.mem_of_mem_eraseIdx hx)
    · intro x hx
      rcases List.mem_append.1 hx with hx | hx
      · exact h x hx
      · simp at hx
        subst hx
        simpa using hr
theorem openE_refs (ref : Int) : ∀ (l : List Entry) (out : List Entry), (∀ x ∈ out, x.ref = ref) → ∀ x ∈ l.foldl (openStep ref) out, x.ref = ref
  | [], _, h => h
  | _ :: l, _, h => openE_refs ref l _ (openStep_refs h)
theorem openE_ref (l : List Entry) (ref : Int) : ∀ x ∈ openE l ref, x.ref = ref := openE_refs ref l [] (by simp)
theorem against3 {e x : Entry} {ref : Int} (he : e.ref = ref) (hx : x.ref = ref) : against e x = true ↔ (x.debit = e.credit ∧ x.credit = e.debit ∧ x.cents = e.cents) := by
  unfold against
  rw [decide_eq_true_eq, he, hx]
  constructor
  · rintro ⟨a, b, c, _⟩; exact ⟨b, a, c⟩
  · rintro ⟨a, b, c⟩; exact ⟨b, a, c, rfl⟩

end Go.Proofs.YtmlhoojcdidgkaaGreat

/-
  Package commission: the reference's statements; lists of integers.
-/
namespace Go.Proofs.YtmlhoojcdidgkaaGreat
set_option linter.unusedSimpArgs false
set_option linter.unusedVariables false
open Go.RowKit Go.Maps
open Go.Sort (grow size_grow)

set_option maxHeartbeats 4000000
set_option maxRecDepth 100000
def comms (p d : Int) (l : List Bill) : List Int := l.map fun b => comm p d b.price
def ofCh (l : List Bill) (ch : Int) : List Bill := l.filter fun b => b.channel == ch
theorem ofCh_step {l : List Bill} {ch : Int} {j : Nat} (h : j < l.length) : ofCh (l.take (j + 1)) ch = if l[j].channel = ch then ofCh (l.take j) ch ++ [l[j]] else ofCh (l.take j) ch := by
  unfold ofCh
  rw [List.take_succ_eq_append_getElem h, List.filter_append]
  by_cases hd : l[j].channel = ch
  · rw [if_pos hd]; simp [hd]
  · rw [if_neg hd]; simp [hd]
theorem ofCh_len (l : List Bill) (ch : Int) : (ofCh l ch).length ≤ l.length := List.length_filter_le _ _
def stmtR (p d : Int) (l : List Bill) (ch : Int) : List Int × Int × Int :=
  if 3000 < l.length then ([], 0, 2) else if (!partOk p d || !billsOk l || !inB ch 0 29) = true then ([], 0, 1)
  else if 1000000000 < (comms p d (ofCh l ch)).sum then ([], 0, 3) else (comms p d (ofCh l ch), (comms p d (ofCh l ch)).sum, 0)
theorem stmtR_many {p d ch : Int} {l : List Bill} (h : 3000 < l.length) : stmtR p d l ch = ([], 0, 2) := by unfold stmtR; rw [if_pos h]
theorem stmtR_no {p d ch : Int} {l : List Bill} (h0 : l.length ≤ 3000) (h : (!partOk p d || !billsOk l || !inB ch 0 29) = true) : stmtR p d l ch = ([], 0, 1) := by unfold stmtR; rw [if_neg (by omega), if_pos h]
theorem stmtR_far {p d ch : Int} {l : List Bill} (h0 : l.length ≤ 3000) (h1 : partOk p d = true) (h2 : billsOk l = true) (h3 : inB ch 0 29 = true) (h : 1000000000 < (comms p d (ofCh l ch)).sum) : stmtR p d l ch = ([], 0, 3) := by
  unfold stmtR; rw [if_neg (by omega), h1, h2, h3, if_neg (by simp), if_pos h]
theorem stmtR_ok {p d ch : Int} {l : List Bill} (h0 : l.length ≤ 3000) (h1 : partOk p d = true) (h2 : billsOk l = true) (h3 : inB ch 0 29 = true) (h : ¬ 1000000000 < (comms p d (ofCh l ch)).sum) : stmtR p d l ch = (comms p d (ofCh l ch), (comms p d (ofCh l ch)).sum, 0) := by
  unfold stmtR; rw [if_neg (by omega), h1, h2, h3, if_neg (by simp), if_neg h]
theorem comms_bd {p d : Int} (h1 : partOk p d = true) : ∀ {l : List Bill}, (∀ b ∈ l, b.ok = true) → 0 ≤ (comms p d l).sum ∧ (comms p d l).sum ≤ 1000000000 * (l.length : Int)
  | [], _ => by simp [comms]
  | b :: l, h => by
    have hb := h b (by simp)
    obtain ⟨n0, n1⟩ := (Bill.ok_iff.1 hb).2.2.2.2.2.2.1
    have := comm_bd h1 n0
    have ih := comms_bd h1 (l := l) (fun x hx => h x (by simp [hx]))
    unfold comms at ih ⊢
    rw [List.map_cons, List.sum_cons, List.length_cons]
    omega
theorem comms_snoc (p d : Int) (l : List Bill) (b : Bill) : comms p d (l ++ [b]) = comms p d l ++ [comm p d b.price] := by unfold comms; rw [List.map_append]; rfl
theorem elemBill : Elem Tryz.prog 22 31 9 72 := elem_mk Tryz.underlying22 (by kernel_rfl)
theorem bill_one (b : Bill) : ∀ u ∈ b.cs, u.oneCell' = true := by simp [Bill.cs, Value.oneCell']
def OutI3 (r : List Int × Int × Int) (e : Ending) (w' : World) : Prop := ∃ A c, e = .returned (.tuple #[.slice A r.1.length c, .int .i64 r.2.1, .int .i64 r.2.2]) ∧ SlInt w' A r.1
theorem outI3_nil {s er : Int} {w' : World} : OutI3 ([], s, er) (.returned (.tuple #[.slice none 0 0, .int .i64 s, .int .i64 er])) w' := ⟨none, 0, rfl, Sl.nil_⟩
end Go.Proofs.YtmlhoojcdidgkaaGreat

/-
  Package deposit: the plain entries of a refund.
-/
namespace Go.Proofs.YtmlhoojcdidgkaaGreat
set_option linter.unusedSimpArgs false
set_option linter.unusedVariables false

def keptE (b : Bill) (kept day : Int) : Entry := ⟨day, 500 + b.stay % 100, 300 + b.place, kept, b.stay⟩
def backE (b : Bill) (back day : Int) : Entry := ⟨day, 500 + b.stay % 100, 900, back, b.stay⟩
def entriesL (b : Bill) (back kept day : Int) : List Entry := (if 0 < kept then [keptE b kept day] else []) ++ (if 0 < back then [backE b back day] else [])
def entriesR (b : Bill) (paid day : Int) : List Entry × Int :=
  if (!b.ok || !amt paid || !inB day 0 366) = true then ([], 1) else (entriesL b (paid - min paid b.keep) (min paid b.keep) day, 0)
theorem entriesR_no {b : Bill} {paid day : Int} (h : (!b.ok || !amt paid || !inB day 0 366) = true) : entriesR b paid day = ([], 1) := by unfold entriesR; rw [if_pos h]
theorem entriesR_ok {b : Bill} {paid day : Int} (h1 : b.ok = true) (h2 : amt paid = true) (h3 : inB day 0 366 = true) : entriesR b paid day = (entriesL b (paid - min paid b.keep) (min paid b.keep) day, 0) := by unfold entriesR; rw [h1, h2, h3]; rfl
end Go.Proofs.YtmlhoojcdidgkaaGreat

/-
  Folio: what deeds do, in plain Lean (no Go in sight).
-/
namespace Go.Proofs.YtmlhoojcdidgkaaGreat
set_option linter.unusedSimpArgs false
set_option linter.unusedVariables false
set_option maxHeartbeats 1000000
structure Deed where
  kind : Int
  day : Int
  stay : Int
  cents : Int
deriving DecidableEq
def Deed.cs (x : Deed) : List Value := [.int .i64 x.kind, .int .i64 x.day, .int .i64 x.stay, .int .i64 x.cents]
abbrev Deed.v (x : Deed) : Value := .agg #[.int .i64 x.kind, .int .i64 x.day, .int .i64 x.stay, .int .i64 x.cents]
/-- A bill with its state, and what was paid. -/
structure Acc where
  b : Bill
  st : Int
  paid : Int
structure Crs where
  day : Int
  es : List Entry
  ac : List Acc
structure Env where
  ts : List Tax
  p : Int
  d : Int
  k : Con
def sgn (a : Int) (e : Entry) : Int := if e.debit = a then e.cents else if e.credit = a then -e.cents else 0
def sumE (a : Int) (q : Entry → Bool) (l : List Entry) : Int := (l.map fun e => if q e = true then sgn a e else 0).sum
theorem sumE_nil (a : Int) (q : Entry → Bool) : sumE a q [] = 0 := rfl
theorem sumE_snoc (a : Int) (q : Entry → Bool) (l : List Entry) (e : Entry) : sumE a q (l ++ [e]) = sumE a q l + if q e = true then sgn a e else 0 := by
  unfold sumE
  rw [List.map_append, List.sum_append]
  simp
theorem sumE_append (a : Int) (q : Entry → Bool) (l m : List Entry) : sumE a q (l ++ m) = sumE a q l + sumE a q m := by
  unfold sumE
  rw [List.map_append, List.sum_append]
def CentsOk (l : List Entry) : Prop := ∀ e ∈ l, 1 ≤ e.cents ∧ e.cents ≤ 1000000000
theorem sgn_bd {a : Int} {e : Entry} (h : 1 ≤ e.cents ∧ e.cents ≤ 1000000000) : -1000000000 ≤ sgn a e ∧ sgn a e ≤ 1000000000 := by
  unfold sgn
  split
  · omega
  · split <;> omega
theorem sumE_bd {a : Int} {q : Entry → Bool} : ∀ {l : List Entry}, CentsOk l → -(1000000000 * (l.length : Int)) ≤ sumE a q l ∧ sumE a q l ≤ 1000000000 * (l.length : Int)
  | [], _ => by simp [sumE]
  | e :: l, h => by
    have h1 := sumE_bd (a := a) (q := q) (l := l) fun x hx => h x (by simp [hx])
    have h2 := sgn_bd (a := a) (h e (by simp))
    have h3 : sumE a q (e :: l) = (if q e = true then sgn a e else 0) + sumE a q l := by unfold sumE; simp
    rw [h3, List.length_cons]
    split <;> omega
def guestA (s : Int) : Int := 500 + s % 100
def Bill.direct (b : Bill) : Bool := b.channel == 0
def payerA (b : Bill) : Int := if b.direct = true then guestA b.stay else 200 + b.channel
def comesR (ts : List Tax) (b : Bill) : Option (Int × Int) := if (allT ts b).2.2 = 0 then some ((allT ts b).2.1, min (b.price + (allT ts b).2.1) 1000000000) else none
def mvE (day frm tgt cents ref : Int) (l : List Entry) : List Entry := if 0 < cents then l ++ [⟨day, tgt, frm, cents, ref⟩] else l
def ownE (b : Bill) (e : Entry) : Bool := !b.direct || (e.ref == b.stay)
/-- What is left to be paid, or an error. -/
def mostR (V : Env) (es : List Entry) (a : Acc) : Except Int Int :=
  if a.st = 3 then .ok (sumE (payerA a.b) (ownE a.b) es) else match comesR V.ts a.b with | none => .error 3 | some (_, c) => .ok (c - a.paid)
def payD (V : Env) (es : List Entry) (a : Acc) (x : Deed) : Except Int (List Entry × Acc) :=
  match mostR V es a with
  | .error e => .error e
  | .ok m => if m < x.cents then .error 41 else .ok (mvE x.day (payerA a.b) 900 x.cents a.b.stay es, { a with paid := a.paid + x.cents })
def voucherD (V : Env) (es : List Entry) (a : Acc) (x : Deed) : Except Int (List Entry × Acc) :=
  match comesR V.ts a.b with
  | none => .error 3
  | some (_, c) => .ok (mvE x.day (guestA a.b.stay) 600 (min x.cents (c - a.paid)) a.b.stay es, { a with paid := a.paid + min x.cents (c - a.paid) })
def cancelD (es : List Entry) (a : Acc) (x : Deed) : List Entry × Acc :=
  (if a.b.direct = true then es ++ (entriesR a.b a.paid x.day).1 else mvE x.day (300 + a.b.place) (payerA a.b) a.b.keep a.b.stay es, { a with st := 4 })
def leaveD (V : Env) (es : List Entry) (a : Acc) (x : Deed) : Except Int (List Entry × Acc) :=
  match comesR V.ts a.b with
  | none => .error 3
  | some (n, _) => .ok (mvE x.day (300 + a.b.place) (700 + a.b.channel) (oneR V.p V.d a.b).1 a.b.stay (mvE x.day (400 + a.b.place) (payerA a.b) n a.b.stay (mvE x.day (300 + a.b.place) (payerA a.b) a.b.price a.b.stay es)), { a with st := 3 })
def walkD (V : Env) (es : List Entry) (a : Acc) (x : Deed) : Except Int (List Entry × Acc) :=
  if (payR V.k a.b.price).2 ≠ 0 then .error 3 else .ok (mvE x.day 900 800 (payR V.k a.b.price).1 a.b.stay (mvE x.day 900 (guestA a.b.stay) a.paid a.b.stay es), { a with st := 5 })
def backD (es : List Entry) (a : Acc) (x : Deed) : Except Int (List Entry × Acc) :=
  if a.paid < x.cents then .error 41 else .ok (mvE x.day 900 (guestA a.b.stay) x.cents a.b.stay es, { a with paid := a.paid - x.cents })
def ruleS (k : Int) : List Int := if k = 1 then [0] else if k = 2 then [1, 2, 3] else if k = 3 then [1] else if k = 4 then [1] else if k = 5 then [2] else if k = 6 then [1] else if k = 7 then [1, 2, 3] else [1, 2]
def ruleD (k : Int) : Bool := (k == 7) || (k == 8)
def statedD (a : Acc) (k : Int) : Bool := decide (a.st ∈ ruleS k) && !((ruleD k || ((k == 2) && (a.st != 3))) && !a.b.direct)
def deedD (V : Env) (es : List Entry) (a : Acc) (x : Deed) : Except Int (List Entry × Acc) :=
  if x.kind = 1 then .ok (es, { a with st := 1 }) else if x.kind = 2 then payD V es a x else if x.kind = 3 then .ok (cancelD es a x) else if x.kind = 4 then .ok (es, { a with st := 2 })
  else if x.kind = 5 then leaveD V es a x else if x.kind = 6 then walkD V es a x else if x.kind = 7 then backD es a x else voucherD V es a x
def idxA (l : List Acc) (s : Int) : Option Nat := l.findIdx? fun a => a.b.stay == s
def brokeD (c : Crs) (x : Deed) : Except Int Crs :=
  if 1000000000 < sumE (200 + x.stay) (fun _ => true) c.es then .error 3 else .ok { c with es := mvE c.day (200 + x.stay) (800 + x.stay) (sumE (200 + x.stay) (fun _ => true) c.es) 0 c.es }
def stepD (V : Env) (c : Crs) (x : Deed) : Except Int Crs :=
  if x.kind = 9 then brokeD c x else
  match idxA c.ac x.stay with
  | none => .error 4
  | some i => match c.ac[i]? with
    | none => .error 4
    | some a => if statedD a x.kind = true then (match deedD V c.es a x with | .error e => .error e | .ok r => .ok { c with es := r.1, ac := c.ac.set i r.2 }) else .error 6
def formedD (day : Int) (x : Deed) : Bool :=
  inB x.kind 1 9 && inB x.day day 366 && (if x.kind = 2 ∨ x.kind = 8 ∨ x.kind = 7 then inB x.cents 1 1000000000 else if x.kind = 9 then inB x.stay 1 29 else true)
def runD (V : Env) (s : Crs × List Int) (x : Deed) : Crs × List Int :=
  if formedD s.1.day x = true then (match stepD V { s.1 with day := x.day } x with | .error e => (s.1, s.2 ++ [e]) | .ok c => (c, s.2 ++ [0])) else (s.1, s.2 ++ [1])
def crs0 (bills : List Bill) : Crs := ⟨0, [], bills.map fun b => ⟨b, 0, 0⟩⟩
def runAll (V : Env) (bills : List Bill) (l : List Deed) : Crs × List Int := l.foldl (runD V) (crs0 bills, [])
def runOk (V : Env) (bills : List Bill) : Bool := partOk V.p V.d && billsOk bills && decide (bills.length ≤ 3000) && conOk V.k && taxesOk V.ts
def runR (V : Env) (bills : List Bill) (l : List Deed) : List Entry × List Int × Int :=
  if 500 < l.length then ([], [], 2) else if runOk V bills = true then ((runAll V bills l).1.es, (runAll V bills l).2, 0) else ([], [], 1)
/-! ### What holds of a course -/
structure AccOk (a : Acc) (n : Nat) : Prop where
  b : a.b.ok = true
  st : 0 ≤ a.st ∧ a.st ≤ 5
  paid : 0 ≤ a.paid ∧ a.paid ≤ 1000000000 * (n : Int)
  early : a.st ≠ 3 → a.paid ≤ 1000000000
structure CrsOk (c : Crs) (n : Nat) : Prop where
  day : 0 ≤ c.day ∧ c.day ≤ 366
  es : ∀ e ∈ c.es, e.ok = true ∧ e.day ≤ c.day
  rises : Rises c.es
  len : c.es.length ≤ 3 * n
  ac : ∀ a ∈ c.ac, AccOk a n
  stays : (c.ac.map fun a => a.b.stay).Nodup
theorem CrsOk.cents {c : Crs} {n : Nat} (h : CrsOk c n) : CentsOk c.es := fun e he => (Entry.ok_iff.1 (h.es e he).1).2.2.2.2.1
/-- Entries of a day, behind those of before. -/
structure EsOk (day : Int) (l : List Entry) : Prop where
  es : ∀ e ∈ l, e.ok = true ∧ e.day ≤ day
  rises : Rises l
theorem EsOk.snoc {day : Int} {l : List Entry} (h : EsOk day l) {e : Entry} (he : e.ok = true) (hd : e.day = day) : EsOk day (l ++ [e]) := by
  refine ⟨fun x hx => ?_, ?_⟩
  · rcases List.mem_append.1 hx with hx | hx
    · exact h.es x hx
    · obtain rfl : x = e := by simpa using hx
      exact ⟨he, by omega⟩
  · refine List.pairwise_append.2 ⟨h.rises, by simp, fun x hx y hy => ?_⟩
    obtain rfl : y = e := by simpa using hy
    have := (h.es x hx).2
    omega
theorem EsOk.mv {day frm tgt cents ref : Int} {l : List Entry} (h : EsOk day l) (d0 : 0 ≤ day ∧ day ≤ 366) (h1 : 100 ≤ frm ∧ frm ≤ 999) (h2 : 100 ≤ tgt ∧ tgt ≤ 999) (hne : tgt ≠ frm) (hc : cents ≤ 1000000000) (hr : 0 ≤ ref ∧ ref ≤ 1000000) : EsOk day (mvE day frm tgt cents ref l) := by
  unfold mvE
  split
  · next h0 => exact h.snoc (Entry.ok_iff.2 ⟨d0, h2, h1, hne, ⟨(by show 1 ≤ cents; omega), hc⟩, hr⟩) rfl
  · exact h
theorem mvE_len (day frm tgt cents ref : Int) (l : List Entry) : (mvE day frm tgt cents ref l).length ≤ l.length + 1 := by
  unfold mvE
  split
  · simp
  · omega
theorem payer_bd {b : Bill} (h : b.ok = true) : (200 ≤ payerA b ∧ payerA b ≤ 229) ∨ (500 ≤ payerA b ∧ payerA b ≤ 599) := by
  have := Bill.ok_iff.1 h
  unfold payerA guestA
  split <;> omega
theorem guest_bd (s : Int) : 500 ≤ guestA s ∧ guestA s ≤ 599 := by unfold guestA; omega
theorem ones_nn (ts : List Tax) (b : Bill) : 0 ≤ (ts.map fun t => (one t b).1).sum := by
  induction ts with
  | nil => simp
  | cons t ts ih =>
    rw [List.map_cons, List.sum_cons]
    have := (one_bd t b).1
    omega
theorem comes_bd {ts : List Tax} {b : Bill} {n c : Int} (hb : b.ok = true) (h : comesR ts b = some (n, c)) : 0 ≤ n ∧ n ≤ 1000000000 ∧ 0 ≤ c ∧ c ≤ 1000000000 := by
  have hb2 := (Bill.ok_iff.1 hb).2.2.2.2.2.2.1
  unfold comesR at h
  split at h
  · next h0 =>
    injection h with h
    injection h with h1 h2
    have hn : 0 ≤ (allT ts b).2.1 ∧ (allT ts b).2.1 ≤ 1000000000 := by
      unfold allT at h0 ⊢
      split
      · simp
      · split
        · simp
        · split
          · simp
          · next hs =>
            refine ⟨?_, by simp only; omega⟩
            exact ones_nn ts b
    omega
  · cases h
end Go.Proofs.YtmlhoojcdidgkaaGreat

/-
  Package commission: the reference's statement.
-/
namespace Go.Proofs.YtmlhoojcdidgkaaGreat
set_option linter.unusedSimpArgs false
set_option linter.unusedVariables false
open Go.RowKit Go.Maps
open Go.Sort (grow size_grow)

set_option maxHeartbeats 4000000
set_option maxRecDepth 100000
end Go.Proofs.YtmlhoojcdidgkaaGreat

/-
  Package commission: the iterator over the bills of a channel.
-/
namespace Go.Proofs.YtmlhoojcdidgkaaGreat
set_option linter.unusedSimpArgs false
set_option linter.unusedVariables false
open Go.RowKit Go.Maps Go.Shelf
open Go.Sort (grow size_grow)

set_option maxHeartbeats 4000000
set_option maxRecDepth 100000
attribute [local go_sem] Oper.semAt_some
abbrev BOk := { b : Bill // b.ok = true }
theorem bok_of : ∀ {l : List Bill}, (∀ b ∈ l, b.ok = true) → ∃ L : List BOk, L.map (·.1) = l
  | [], _ => ⟨[], rfl⟩
  | b :: l, h => by
    obtain ⟨L, hL⟩ := bok_of (l := l) (fun x hx => h x (by simp [hx]))
    exact ⟨⟨b, h b (by simp)⟩ :: L, by rw [List.map_cons, hL]⟩
def ofB (L : List BOk) (ch : Int) : List BOk := L.filter fun b => b.1.channel == ch
theorem ofB_step {L : List BOk} {ch : Int} {j : Nat} (h : j < L.length) : ofB (L.take (j + 1)) ch = if L[j].1.channel = ch then ofB (L.take j) ch ++ [L[j]] else ofB (L.take j) ch := by
  unfold ofB
  rw [List.take_succ_eq_append_getElem h, List.filter_append]
  by_cases hd : L[j].1.channel = ch
  · rw [if_pos hd]; simp [hd]
  · rw [if_neg hd]; simp [hd]
theorem ofB_map (L : List BOk) (ch : Int) : (ofB L ch).map (·.1) = ofCh (L.map (·.1)) ch := by
  unfold ofB ofCh
  rw [List.filter_map]
  rfl
theorem ofB_prefix (L : List BOk) (ch : Int) (k : Nat) : ofB (L.take k) ch <+: ofB L ch := (List.take_prefix k L).filter _
theorem of1_in (n : Nat) (hn : 1 ≤ n) (l B1 B2 : Nat) (X : Nat → Prop) (L : List BOk) (D : Int) (A : Option Addr) (c : Nat) (J Jx : List BOk → World → Prop) (W : World)
    (hX1 : X B1) (hX2 : X B2) (hXA : L ≠ [] → ∀ bk off, A = some ⟨bk, off, none⟩ → X bk) (hXs : ∀ k, X k → k < W.heap.size) (hJ : AbidesFrom W.heap.size J)
    (hY : ∀ pre x W1, J pre W1 → pre.length < (ofB L D).length → YieldAt Fence.wide (n - 1) Tryz.prog l #[x.1.v] W1 fun e W' =>
      (e = .returned (.bool true) ∧ J (pre ++ [x]) W' ∧ KeepOn X W1 W' ∧ W1.heap.size ≤ W'.heap.size) ∨ (e = .returned (.bool false) ∧ Jx (pre ++ [x]) W'))
    (c1 : W.cell? ⟨B1, 0, none⟩ = some (.slice A L.length c)) (c2 : W.cell? ⟨B2, 0, none⟩ = some (.int .i64 D))
    (hs : Sl W W.heap.size 9 Bill.cs A (L.map (·.1))) (hl : L.length ≤ 140737488355328) (h0 : J [] W) :
    CallsIn Fence.wide n Tryz.prog 101 #[.func (.yield l) #[] #[], .pointer (some ⟨B1, 0, none⟩), .pointer (some ⟨B2, 0, none⟩)] W fun e W' => (∃ v, e = .returned v) ∧
      ((∃ xs, xs = ofB L D ∧ J xs W') ∨ (∃ pre, pre <+: ofB L D ∧ Jx pre W')) := by
  have HY := Lib.hid hY
  have HXA := Lib.hid hXA
  have HXs := Lib.hid hXs
  have HC2 := Lib.hid c2
  clear hY hXA hXs c2
  refine callsIn_of_wp Tryz.func101 rfl trivial ?_ rfl
  simp only [Tryz.ntmps101, List.size_toArray, List.length_cons, List.length_nil, Nat.reduceAdd, Nat.reduceSub, Array.replicate_succ, Array.replicate_zero, List.push_toArray, List.append_toArray, List.nil_append, List.cons_append]
  gi_wp2
  gi_loopw [8] (fun i wr => ∃ k : Nat, k ≤ L.length ∧ i = .int .i64 k ∧ J (ofB (L.take k) D) wr ∧ KeepOn X W wr ∧ W.heap.size ≤ wr.heap.size) (fun i _ => L.length - (intOf i).toNat)
  case atStart => exact ⟨0, Nat.zero_le _, rfl, h0, KeepOn.refl _ _, Nat.le_refl _⟩
  case round =>
    obtain ⟨k, hk, rfl, hJs, hnx, hsz⟩ := hrel
    by_cases hlt : k < L.length
    · have hne : L ≠ [] := by rintro rfl; simp at hlt
      obtain ⟨bk, off, rfl, hbl, hcell⟩ := (hs.keepOn hnx (fun _ => HXA.out hne)).at_ (k := k) (by simpa using hlt)
      rw [List.getElem_map] at hcell
      have q0 := hcell 0 _ rfl
      have q1 := hcell 1 _ rfl
      have q2 := hcell 2 _ rfl
      have q3 := hcell 3 _ rfl
      have q4 := hcell 4 _ rfl
      have q5 := hcell 5 _ rfl
      have q6 := hcell 6 _ rfl
      have q7 := hcell 7 _ rfl
      have q8 := hcell 8 _ rfl
      rw [Nat.add_zero] at q0
      have HNE := Lib.hid hne
      clear hcell hne
      have hc2 : wr.cell? ⟨B2, 0, none⟩ = some (.int .i64 D) := (hnx.cell (p := ⟨B2, 0, none⟩) hX2).trans HC2.out
      have hB2 : B2 < wr.heap.size := by have := HXs.out _ hX2; omega
      have hbw : bk < wr.heap.size := by omega
      have hx1 : (k : Int) < (L.length : Int) := by omega
      have hx4 : (0 : Int) ≤ (k : Int) := by omega
      have hJa : J (ofB (L.take k) D) (wr.alloc (.cells #[.int .i64 L[k].1.stay, .int .i64 L[k].1.channel, .int .i64 L[k].1.place, .int .i64 L[k].1.kind, .int .i64 L[k].1.frm, .int .i64 L[k].1.til, .int .i64 L[k].1.persons, .int .i64 L[k].1.price, .int .i64 L[k].1.keep] 31)) := abides_alloc hJ hJs _
      have hk1 : KeepOn X W (wr.alloc (.cells #[.int .i64 L[k].1.stay, .int .i64 L[k].1.channel, .int .i64 L[k].1.place, .int .i64 L[k].1.kind, .int .i64 L[k].1.frm, .int .i64 L[k].1.til, .int .i64 L[k].1.persons, .int .i64 L[k].1.price, .int .i64 L[k].1.keep] 31)) := hnx.alloc (fun i hi => by have := HXs.out i hi; omega) _
      have HK1 := Lib.hid hk1
      have hst := ofB_step (ch := D) hlt
      clear hk1
      by_cases hd : L[k].1.channel = D
      · have hb : (L[k].1.channel == D) = true := by simpa using hd
        rw [if_pos hd] at hst
        have hln : (ofB (L.take k) D).length < (ofB L D).length := by
          have := (ofB_prefix L D (k + 1)).length_le
          rw [hst, List.length_append] at this
          simp at this
          omega
        obtain ⟨fn, tmps, assign, body, hy, hR⟩ := HY.out _ L[k] _ hJa (by omega)
        have HSN := Lib.hid hst
        clear hst hd hln
        dsimp only [Bill.v] at hy
        gi_wp2
        refine hR.mono ?_
        rintro e W3 (⟨rfl, hJ3, hk3, hz3⟩ | ⟨rfl, hJx3⟩)
        · rw [World.size_alloc] at hz3
          gi_wp2
          go_roundw
          case rel => exact ⟨k + 1, by omega, by simp, by rw [HSN.out]; exact hJ3, HK1.out.trans hk3, by omega⟩
          case measure => simp [intOf]; omega
        · gi_wp2
          refine bodyPost_ret (results_none rfl _ _ _) rfl ?_
          exact ⟨⟨_, rfl⟩, .inr ⟨_, by rw [← HSN.out]; exact ofB_prefix L D _, hJx3⟩⟩
      · have hb : (L[k].1.channel == D) = false := by simpa using hd
        rw [if_neg hd] at hst
        have HSN := Lib.hid hst
        clear hst hd
        gi_wp2
        refine ⟨fun _ h => (by cases h), ?_⟩
        gi_wp2
        go_roundw
        case rel => exact ⟨k + 1, by omega, by simp, by rw [HSN.out]; exact hJa, HK1.out, by simp; omega⟩
        case measure => simp [intOf]; omega
    · obtain rfl : k = L.length := by omega
      gi_wp2
      go_end0
      refine ⟨⟨_, rfl⟩, .inl ⟨_, ?_, hJs⟩⟩
      rw [List.take_of_length_le (Nat.le_refl _)]
theorem of_any (A : Option Addr) (n c : Nat) (D : Int) (w : World) :
    Calls Tryz.prog 74 #[.slice A n c, .int .i64 D] w fun e w' => e = .returned (.func (.func 101) #[] #[.pointer (some ⟨w.heap.size, 0, none⟩), .pointer (some ⟨w.heap.size + 1, 0, none⟩)]) ∧ w' = (w.alloc (.cells #[.slice A n c] 22)).alloc (.cells #[.int .i64 D] 3) := by
  go_enter Tryz.func74, Tryz.ntmps74
  go_wp2
  go_ret
  exact ⟨rfl, rfl⟩
theorem of_stops (n : Nat) (hn : 1 ≤ n) (B1 B2 : Nat) (X : Nat → Prop) (L : List BOk) (D : Int) (A : Option Addr) (c : Nat) (w0 : World)
    (hX1 : X B1) (hX2 : X B2) (hXA : L ≠ [] → ∀ bk off, A = some ⟨bk, off, none⟩ → X bk) (hXs : ∀ k, X k → k < w0.heap.size)
    (c1 : w0.cell? ⟨B1, 0, none⟩ = some (.slice A L.length c)) (c2 : w0.cell? ⟨B2, 0, none⟩ = some (.int .i64 D))
    (hs : Sl w0 w0.heap.size 9 Bill.cs A (L.map (·.1))) (hl : L.length ≤ 140737488355328) :
    SeqStopsK Fence.wide n Tryz.prog 101 #[.pointer (some ⟨B1, 0, none⟩), .pointer (some ⟨B2, 0, none⟩)] (fun x : BOk => #[x.1.v]) (fun P Q => KeepOn X P Q ∧ P.heap.size ≤ Q.heap.size)
      (fun xs => xs = ofB L D) (fun pre => pre <+: ofB L D) (ofB L D).length w0 := fun l J Jx W hW hJ _ hY h0 =>
  of1_in n hn l B1 B2 X L D A c J Jx W hX1 hX2 hXA (fun k hk => Nat.lt_of_lt_of_le (hXs k hk) hW.size) hJ
    (fun pre x W1 h1 h2 => (hY pre x W1 h1 h2).mono fun e W' h => h)
    ((hW.cell (p := ⟨B1, 0, none⟩) (hXs _ hX1)).trans c1) ((hW.cell (p := ⟨B2, 0, none⟩) (hXs _ hX2)).trans c2)
    ((hs.below hW).more hW.size) hl h0
end Go.Proofs.YtmlhoojcdidgkaaGreat
