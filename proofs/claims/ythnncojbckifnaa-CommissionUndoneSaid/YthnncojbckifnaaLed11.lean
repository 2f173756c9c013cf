/-
  Contracts of package ledger: undoing.
-/
import Derived.Test.YthnncojbckifnaaLed10
import Derived.Deep.DeepCutAuto
namespace Go.Proofs.Ythnncojbckifnaa
set_option linter.unusedSimpArgs false
set_option linter.unusedVariables false
open Go.RowKit
open Go.Sort (grow size_grow)

set_option maxHeartbeats 1000000
set_option maxRecDepth 100000
theorem undoR_cases (l : List Entry) (ref day : Int) : ((!ledOk l || !inB ref 1 1000000 || !inB day 0 366) = true ∧ undoR l ref day = ([], 1)) ∨ (ledOk l = true ∧ inB ref 1 1000000 = true ∧ inB day 0 366 = true ∧ ((begun l day = true ∧ undoR l ref day = ([], 6)) ∨
    (begun l day = false ∧ openE l ref = [] ∧ undoR l ref day = ([], 4)) ∨ (begun l day = false ∧ openE l ref ≠ [] ∧ 5000 < l.length + (openE l ref).length ∧ undoR l ref day = ([], 2)) ∨
    (begun l day = false ∧ openE l ref ≠ [] ∧ l.length + (openE l ref).length ≤ 5000 ∧ undoR l ref day = (l ++ (openE l ref).map (undone day), 0)))) := by
  unfold undoR
  by_cases h1 : (!ledOk l || !inB ref 1 1000000 || !inB day 0 366) = true
  · rw [if_pos h1]; exact .inl ⟨h1, rfl⟩
  · rw [if_neg h1]
    have h2 : (ledOk l = true ∧ inB ref 1 1000000 = true) ∧ inB day 0 366 = true := by simpa using h1
    refine .inr ⟨h2.1.1, h2.1.2, h2.2, ?_⟩
    by_cases hb : begun l day = true
    · rw [if_pos hb]; exact .inl ⟨hb, rfl⟩
    · rw [if_neg hb]
      have hb' : begun l day = false := by simpa using hb
      by_cases ho : openE l ref = []
      · rw [if_pos ho]; exact .inr (.inl ⟨hb', ho, rfl⟩)
      · rw [if_neg ho]
        by_cases h5 : 5000 < l.length + (openE l ref).length
        · rw [if_pos h5]; exact .inr (.inr (.inl ⟨hb', ho, h5, rfl⟩))
        · rw [if_neg h5]; exact .inr (.inr (.inr ⟨hb', ho, by omega, rfl⟩))
theorem undone_snoc {l r : List Entry} {day : Int} {k : Nat} (h : k < r.length) : l ++ (r.take (k + 1)).map (undone day) = (l ++ (r.take k).map (undone day)) ++ [undone day r[k]] := by
  rw [List.take_succ_eq_append_getElem h, List.map_append, List.append_assoc]
  rfl
theorem undo_any (l : List Entry) (A : Option Addr) (c : Nat) (ref day : Int) (w : World) (hs : SlEnt w A l) (hl : l.length ≤ 140737488355328) :
    Calls Try.prog 40 #[.slice A l.length c, .int .i64 ref, .int .i64 day] w fun e w' => RetE (undoR l ref day) e w' ∧ Below w.heap.size w w' := by
  rcases undoR_cases l ref day with ⟨h1, hr⟩ | ⟨h1, h2, h3, ⟨h4, hr⟩ | ⟨h4, h5, hr⟩ | ⟨h4, h5, h6, hr⟩ | ⟨h4, h5, h6, hr⟩⟩
  · cases g1 : ledOk l <;> cases g2 : inB ref 1 1000000 <;> cases g3 : inB day 0 366
    case true.true.true => rw [g1, g2, g3] at h1; simp at h1
    all_goals
      rw [hr]
      clear h1 hr
      go_enter Try.func40, Try.ntmps40
      go_wp2_with (first | (go_at_call 56; refine (lvalid_any l A c _ hs hl).mono ?_; rintro e w1 ⟨rfl, hb1⟩; have hz1 := hb1.size; (try simp only [World.size_alloc, World.size_setCell, World.size_drew, size_drewN', size_grow, size_redrawn] at hz1); obtain ⟨hc1, hf1⟩ := bcellB (B := w.heap.size) hb1 (by first | omega | (simp only [World.size_alloc, World.size_setCell, World.size_drew, size_drewN', size_grow, size_redrawn]; omega))); rw [g1] | (go_at_call 67; refine (led_within_any _ _ _ _).mono ?_; rintro e w2 ⟨rfl, rfl⟩) | (go_at_call 65; refine (isDay_any _ _).mono ?_; rintro e w2 ⟨rfl, rfl⟩))
      go_ret2
      exact ⟨retE_nil, hb1⟩
  · have HR := Lib.hid hr
    clear hr
    go_enter Try.func40, Try.ntmps40
    go_wp2_with (first | (go_at_call 56; refine (lvalid_any l A c _ hs hl).mono ?_; rintro e w1 ⟨rfl, hb1⟩; have hz1 := hb1.size; (try simp only [World.size_alloc, World.size_setCell, World.size_drew, size_drewN', size_grow, size_redrawn] at hz1); obtain ⟨hc1, hf1⟩ := bcellB (B := w.heap.size) hb1 (by first | omega | (simp only [World.size_alloc, World.size_setCell, World.size_drew, size_drewN', size_grow, size_redrawn]; omega))); rw [h1] | (go_at_call 67; refine (led_within_any _ _ _ _).mono ?_; rintro e w2 ⟨rfl, rfl⟩) | (go_at_call 65; refine (isDay_any _ _).mono ?_; rintro e w2 ⟨rfl, rfl⟩) | (go_at_call 61; refine (begun_any l A c day _ (hs.up hb1) hl).mono ?_; rintro e w' ⟨rfl, rfl⟩); rw [h4])
    go_ret2
    refine ⟨by rw [HR.out]; exact retE_nil, ?_⟩
    repeat' (first
      | (with_reducible exact Below.refl _ _)
      | (with_reducible assumption)
      | (with_reducible refine below_drewN ?_ _)
      | (with_reducible refine Below.drew ?_)
      | (with_reducible refine below_regrown_up _ _ ?_ ?_)
      | (with_reducible refine Below.alloc ?_ ?_ _)
      | (with_reducible refine Below.setCell ?_ ?_ _)
      | (with_reducible refine below_up ?_ ?_ (by assumption))
      | (with_reducible exact Nat.le_refl _)
      | omega
      | (simp; done)
      | (simp; omega))
  · have HR := Lib.hid hr
    have hl5 := (ledOk_iff.1 h1).1
    clear hr
    go_enter Try.func40, Try.ntmps40
    go_wp2_with (first | (go_at_call 56; refine (lvalid_any l A c _ hs hl).mono ?_; rintro e w1 ⟨rfl, hb1⟩; have hz1 := hb1.size; (try simp only [World.size_alloc, World.size_setCell, World.size_drew, size_drewN', size_grow, size_redrawn] at hz1); obtain ⟨hc1, hf1⟩ := bcellB (B := w.heap.size) hb1 (by first | omega | (simp only [World.size_alloc, World.size_setCell, World.size_drew, size_drewN', size_grow, size_redrawn]; omega))); rw [h1] | (go_at_call 67; refine (led_within_any _ _ _ _).mono ?_; rintro e w2 ⟨rfl, rfl⟩) | (go_at_call 65; refine (isDay_any _ _).mono ?_; rintro e w2 ⟨rfl, rfl⟩) | (go_at_call 61; refine (begun_any l A c day _ (hs.up hb1) hl).mono ?_; rintro e w' ⟨rfl, rfl⟩); rw [h4] | (go_at_call 68; refine (open_any l A c ref _ (hs.up hb1) hl5).mono ?_; rintro e w3 ⟨⟨v3, rfl, hown3⟩, hb3⟩; obtain ⟨A3, c3, rfl, hc3, _, hsl3⟩ := hown3.sl ent_len; have hz3 := hb3.size))
    all_goals
      go_ret2
      refine ⟨by rw [HR.out]; exact retE_nil, ?_⟩
      repeat' (first
        | (with_reducible exact Below.refl _ _)
        | (with_reducible assumption)
        | (with_reducible refine below_drewN ?_ _)
        | (with_reducible refine Below.drew ?_)
        | (with_reducible refine below_regrown_up _ _ ?_ ?_)
        | (with_reducible refine Below.alloc ?_ ?_ _)
        | (with_reducible refine Below.setCell ?_ ?_ _)
        | (with_reducible refine below_up ?_ ?_ (by assumption))
        | (with_reducible exact Nat.le_refl _)
        | omega
        | (simp; done)
        | (simp; omega))
  · have HR := Lib.hid hr
    have hl5 := (ledOk_iff.1 h1).1
    have hpos : 0 < (openE l ref).length := by rcases hx : openE l ref with _ | ⟨x, y⟩; exact absurd hx h5; simp
    have hp2 : ((openE l ref).length == 0) = false := by rw [beq_eq_false_iff_ne]; omega
    have hp3 : (((openE l ref).length : Int) == 0) = false := by rw [beq_eq_false_iff_ne]; omega
    have hp4 : (5000 : Int) < (l.length : Int) + ((openE l ref).length : Int) := by omega
    have hle := openE_le l ref
    clear hr h5
    go_enter Try.func40, Try.ntmps40
    go_wp2_with (first | (go_at_call 56; refine (lvalid_any l A c _ hs hl).mono ?_; rintro e w1 ⟨rfl, hb1⟩; have hz1 := hb1.size; (try simp only [World.size_alloc, World.size_setCell, World.size_drew, size_drewN', size_grow, size_redrawn] at hz1); obtain ⟨hc1, hf1⟩ := bcellB (B := w.heap.size) hb1 (by first | omega | (simp only [World.size_alloc, World.size_setCell, World.size_drew, size_drewN', size_grow, size_redrawn]; omega))); rw [h1] | (go_at_call 67; refine (led_within_any _ _ _ _).mono ?_; rintro e w2 ⟨rfl, rfl⟩) | (go_at_call 65; refine (isDay_any _ _).mono ?_; rintro e w2 ⟨rfl, rfl⟩) | (go_at_call 61; refine (begun_any l A c day _ (hs.up hb1) hl).mono ?_; rintro e w' ⟨rfl, rfl⟩); rw [h4] | (go_at_call 68; refine (open_any l A c ref _ (hs.up hb1) hl5).mono ?_; rintro e w3 ⟨⟨v3, rfl, hown3⟩, hb3⟩; obtain ⟨A3, c3, rfl, hc3, _, hsl3⟩ := hown3.sl ent_len; have hz3 := hb3.size))
    all_goals
      go_ret2
      refine ⟨by rw [HR.out]; exact retE_nil, ?_⟩
      repeat' (first
        | (with_reducible exact Below.refl _ _)
        | (with_reducible assumption)
        | (with_reducible refine below_drewN ?_ _)
        | (with_reducible refine Below.drew ?_)
        | (with_reducible refine below_regrown_up _ _ ?_ ?_)
        | (with_reducible refine Below.alloc ?_ ?_ _)
        | (with_reducible refine Below.setCell ?_ ?_ _)
        | (with_reducible refine below_up ?_ ?_ (by assumption))
        | (with_reducible exact Nat.le_refl _)
        | omega
        | (simp; done)
        | (simp; omega))
  · have HR := Lib.hid hr
    have hl5 := (ledOk_iff.1 h1).1
    have hpos : 0 < (openE l ref).length := by rcases hx : openE l ref with _ | ⟨x, y⟩; exact absurd hx h5; simp
    have hp2 : ((openE l ref).length == 0) = false := by rw [beq_eq_false_iff_ne]; omega
    have hp3 : (((openE l ref).length : Int) == 0) = false := by rw [beq_eq_false_iff_ne]; omega
    have hp4 : (l.length : Int) + ((openE l ref).length : Int) ≤ 5000 := by omega
    have hle := openE_le l ref
    clear hr h5
    generalize hrr : openE l ref = r at *
    have HRR := Lib.hid hrr
    clear hrr
    go_enter Try.func40, Try.ntmps40
    go_wp2_with (first | (go_at_call 56; refine (lvalid_any l A c _ hs hl).mono ?_; rintro e w1 ⟨rfl, hb1⟩; have hz1 := hb1.size; (try simp only [World.size_alloc, World.size_setCell, World.size_drew, size_drewN', size_grow, size_redrawn] at hz1); obtain ⟨hc1, hf1⟩ := bcellB (B := w.heap.size) hb1 (by first | omega | (simp only [World.size_alloc, World.size_setCell, World.size_drew, size_drewN', size_grow, size_redrawn]; omega))); rw [h1] | (go_at_call 67; refine (led_within_any _ _ _ _).mono ?_; rintro e w2 ⟨rfl, rfl⟩) | (go_at_call 65; refine (isDay_any _ _).mono ?_; rintro e w2 ⟨rfl, rfl⟩) | (go_at_call 61; refine (begun_any l A c day _ (hs.up hb1) hl).mono ?_; rintro e w' ⟨rfl, rfl⟩); rw [h4] | (go_at_call 68; refine (open_any l A c ref _ (hs.up hb1) hl5).mono ?_; rintro e w3 ⟨⟨v3, rfl, hown3⟩, hb3⟩; rw [HRR.out] at hown3; obtain ⟨A3, c3, rfl, hc3, _, hsl3⟩ := hown3.sl ent_len; have hz3 := hb3.size) | (go_at_call 62; refine (clone_any l A c _ w3.heap.size (hs.up (by repeat' (first | (with_reducible exact Below.refl _ _) | (with_reducible assumption) | (with_reducible refine below_drewN ?_ _) | (with_reducible refine Below.drew ?_) | (with_reducible refine below_regrown_up _ _ ?_ ?_) | (with_reducible refine Below.alloc ?_ ?_ _) | (with_reducible refine Below.setCell ?_ ?_ _) | (with_reducible refine below_up ?_ ?_ (by assumption)) | (with_reducible exact Nat.le_refl _) | omega | (simp; done) | (simp; omega)))) (by omega) (Nat.le_refl _)).mono ?_; rintro e w4 ⟨⟨A4, c4, rfl, hown4⟩, hb4⟩; have hz4 := hb4.size))
    have hb03 : Below w.heap.size w w3 := (by repeat' (first | (with_reducible exact Below.refl _ _) | (with_reducible assumption) | (with_reducible refine below_drewN ?_ _) | (with_reducible refine Below.drew ?_) | (with_reducible refine below_regrown_up _ _ ?_ ?_) | (with_reducible refine Below.alloc ?_ ?_ _) | (with_reducible refine Below.setCell ?_ ?_ _) | (with_reducible refine below_up ?_ ?_ (by assumption)) | (with_reducible exact Nat.le_refl _) | omega | (simp; done) | (simp; omega)))
    go_loopw [9, 48] (fun v i wr => ∃ m : Nat, m ≤ r.length ∧ i = .int .i64 m ∧ OwnE wr w3.heap.size v (l ++ (r.take m).map (undone day)) ∧ Below w3.heap.size w3 wr) (fun _ i _ => r.length - (intOf i).toNat)
    case atStart => exact ⟨0, by omega, rfl, by simpa using hown4, hb4⟩
    case round =>
      obtain ⟨m, hm, rfl, hown, hbw⟩ := hrel
      have hbz := hbw.size
      have hb0w := below_up hb03 (by omega) hbw
      by_cases hlt : m < r.length
      · have hx1 : (m : Int) < (r.length : Int) := by omega
        have hx4 : (0 : Int) ≤ (m : Int) := by omega
        obtain ⟨b, off, rfl, hbl, hcell⟩ := (hsl3.up hbw).at_ hlt
        have q0 := hcell 0 _ rfl
        have q1 := hcell 1 _ rfl
        have q2 := hcell 2 _ rfl
        have q3 := hcell 3 _ rfl
        have q4 := hcell 4 _ rfl
        rw [Nat.add_zero] at q0
        clear hcell
        have hsn := undone_snoc (l := l) (day := day) hlt
        have hlen : (l ++ (r.take m).map (undone day)).length ≤ 5000 := by simp; omega
        generalize hout : l ++ (r.take m).map (undone day) = out at *
        clear hout
        have HSN := Lib.hid hsn
        clear hsn
        go_upto_region 16 with (go_at_call 69; refine (turned_any r[m] _).mono ?_; unfold turned; rintro e w5 ⟨rfl, hb5⟩; have hz5 := hb5.size; (try simp only [World.size_alloc, World.size_setCell, World.size_drew, size_drewN', size_grow, size_redrawn] at hz5); obtain ⟨hc5, hf5⟩ := bcellB (B := wr.heap.size + 1) hb5 (by first | omega | (simp only [World.size_alloc, World.size_setCell, World.size_drew, size_drewN', size_grow, size_redrawn]; omega)))
        refine name_world (fun w6 hw6 => ?_)
        have hb6 : Below wr.heap.size wr w6 := by
          rw [hw6]
          repeat' (first
            | (with_reducible exact Below.refl _ _)
            | (with_reducible assumption)
            | (with_reducible refine below_drewN ?_ _)
            | (with_reducible refine Below.drew ?_)
            | (with_reducible refine below_regrown_up _ _ ?_ ?_)
            | (with_reducible refine Below.alloc ?_ ?_ _)
            | (with_reducible refine Below.setCell ?_ ?_ _)
            | (with_reducible refine below_up ?_ ?_ (by assumption))
            | (with_reducible exact Nat.le_refl _)
            | omega
            | (simp; done)
            | (simp; omega))
        have c5 : ∀ o, w5.cell? ⟨wr.heap.size, o, none⟩ = (#[.int .i64 r[m].day, .int .i64 r[m].debit, .int .i64 r[m].credit, .int .i64 r[m].cents, .int .i64 r[m].ref] : Array Value)[o]? := box_below hb5 (by simp) (box_new wr _ _)
        have c6 : ∀ o, w6.cell? ⟨wr.heap.size, o, none⟩ = (#[.int .i64 day, .int .i64 r[m].credit, .int .i64 r[m].debit, .int .i64 r[m].cents, .int .i64 r[m].ref] : Array Value)[o]? := by
          rw [hw6]
          exact box_set (box_set (box_set (box_set (box_set (box_set c5 (i := 0) (by simp) _) (i := 1) (by simp) _) (i := 2) (by simp) _) (i := 3) (by simp) _) (i := 4) (by simp) _) (i := 0) (by simp) _
        have hz6 := hb6.size
        have hlt6 : wr.heap.size < w6.heap.size := by
          rw [hw6]
          simp
          omega
        have hown6 := hown.below hb6
        have HW6 := Lib.hid hw6
        clear hw6 c5 hc5 hf5 hb5 hz5
        go_wp2_with (at_builtin; go_loud (refine wpList_push _ rfl (.tmp 56) (.tmp 58) 31 63 rfl w3.heap.size 5 40 Entry.cs elemEnt ent_len ent_one _ out rfl (hown6.alloc _) _ 1 (undone day r[m]) rfl (news_new _ _ _ _ rfl) (by first | omega | (simp; done) | (simp; omega)) (by first | omega | (simp; done) | (simp; omega)) (by first | omega | (simp; done) | (simp; omega)) ?_); intro v2 w7 hown7 hgrow7)
        have hb7 : Below w3.heap.size w3 w7 := below_push ((below_up hbw (by omega) hb6).alloc (by omega) _) (hown6.alloc _) hgrow7 (by first | omega | (simp; done) | (simp; omega))
        go_roundw
        case rel =>
          refine ⟨m + 1, by omega, by go_num, ?_, hb7⟩
          rw [HSN.out]
          exact hown7
        case measure => simp [intOf]; omega
      · obtain rfl : m = r.length := by omega
        rw [List.take_of_length_le (Nat.le_refl _)] at hown
        obtain ⟨A5, c5, rfl, _, _⟩ := hown.form
        go_wp2
        go_ret2
        refine ⟨by rw [HR.out]; exact retE_own hown, ?_⟩
        repeat' (first
          | (with_reducible exact Below.refl _ _)
          | (with_reducible assumption)
          | (with_reducible refine below_drewN ?_ _)
          | (with_reducible refine Below.drew ?_)
          | (with_reducible refine below_regrown_up _ _ ?_ ?_)
          | (with_reducible refine Below.alloc ?_ ?_ _)
          | (with_reducible refine Below.setCell ?_ ?_ _)
          | (with_reducible refine below_up ?_ ?_ (by assumption))
          | (with_reducible exact Nat.le_refl _)
          | omega
          | (simp; done)
          | (simp; omega))
end Go.Proofs.Ythnncojbckifnaa
