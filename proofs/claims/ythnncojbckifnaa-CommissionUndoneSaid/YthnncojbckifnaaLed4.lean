/-
  Contracts of package ledger and of its reference: a further entry.
-/
import Derived.Test.YthnncojbckifnaaLed3
import Derived.WalkSpells
import Derived.Deep.RegionLaw
namespace Go.Proofs.Ythnncojbckifnaa
set_option linter.unusedSimpArgs false
set_option linter.unusedVariables false
open Go.RowKit
open Go.Sort (grow size_grow)

set_option maxHeartbeats 2000000
set_option maxRecDepth 100000
theorem Sl.up {α : Type} {w w' : World} {size : Nat} {enc : α → List Value} {A : Option Addr} {l : List α} (h : Sl w w.heap.size size enc A l) (hb : Below w.heap.size w w') : Sl w' w'.heap.size size enc A l := (h.below hb).more hb.size
theorem elemEnt : Elem Try.prog 31 63 5 40 := elem_mk Try.underlying31 (by kernel_rfl)
theorem ent_len (y : Entry) : (Entry.cs y).length = 5 := rfl
theorem ent_one (y : Entry) : ∀ u ∈ Entry.cs y, u.oneCell' = true := by simp [Entry.cs, Value.oneCell']
abbrev OwnE (w : World) (B : Nat) (v : Value) (L : List Entry) : Prop := OwnL w B 63 5 Entry.cs v L
/-- What a list of entries and an error hand back. -/
def RetE (r : List Entry × Int) (e : Ending) (w' : World) : Prop := ∃ A c, e = .returned (.tuple #[.slice A r.1.length c, .int .i64 r.2]) ∧ r.1.length ≤ c ∧ SlEnt w' A r.1
theorem retE_nil {er : Int} {w' : World} : RetE ([], er) (.returned (.tuple #[.slice none 0 0, .int .i64 er])) w' := ⟨none, 0, rfl, Nat.le_refl _, Sl.nil_⟩
theorem retE_own {w' : World} {B : Nat} {v : Value} {L : List Entry} (h : OwnE w' B v L) : RetE (L, 0) (.returned (.tuple #[v, .int .i64 0])) w' := by
  obtain ⟨A, c, rfl, h1, _, h2⟩ := h.sl ent_len
  exact ⟨A, c, rfl, h1, h2⟩

theorem begun_any (l : List Entry) (A : Option Addr) (c : Nat) (day : Int) (w : World) (hs : SlEnt w A l) (hl : l.length ≤ 140737488355328) :
    Calls Try.prog 61 #[.slice A l.length c, .int .i64 day] w fun e w' => e = .returned (.bool (begun l day)) ∧ w = w' := by
  by_cases h0 : 0 < l.length
  · have hbg := begun_at (day := day) h0
    obtain ⟨b, off, rfl, hbl, hcell⟩ := hs.at_ (k := l.length - 1) (by omega)
    have q0 := hcell 0 _ rfl
    rw [Nat.add_zero] at q0
    clear hcell
    generalize l[l.length - 1].day = d at *
    have HB := Lib.hid hbg
    clear hbg
    have hx : (0 : Int) < (l.length : Int) := by omega
    go_enter Try.func61, Try.ntmps61
    go_wp2
    go_ret
    exact ⟨ret_bool (by rw [HB.out]), rfl⟩
  · have hn : l = [] := List.eq_nil_of_length_eq_zero (by omega)
    subst hn
    go_enter Try.func61, Try.ntmps61
    go_wp2
    go_ret
    exact ⟨rfl, rfl⟩
def lastDay (l : List Entry) : Int := match l.getLast? with | some e => e.day | none => 0
theorem lastDay_at {l : List Entry} (h : 0 < l.length) : lastDay l = (l[l.length - 1]'(by omega)).day := by
  unfold lastDay
  rw [List.getLast?_eq_getElem?, List.getElem?_eq_getElem (by omega)]
theorem lastDay_begun {l : List Entry} {day : Int} (h : 0 ≤ day) : begun l day = decide (day < lastDay l) := by
  unfold begun lastDay
  cases l.getLast? with
  | none => symm; simp; omega
  | some e => rfl
theorem clone_any (l : List Entry) (A : Option Addr) (c : Nat) (w : World) (B : Nat) (hs : SlEnt w A l) (hl : l.length ≤ 1000000) (hB : B ≤ w.heap.size) :
    Calls Try.prog 62 #[.slice A l.length c] w fun e w' => (∃ A' c', e = .returned (.slice A' l.length c') ∧ OwnE w' B (.slice A' l.length c') l) ∧ Below w.heap.size w w' := by
  cases A with
  | none =>
    have hn : l = [] := by
      rcases l with _ | ⟨x, l⟩
      · rfl
      · obtain ⟨_, _, e0, _⟩ := hs (by simp)
        cases e0
    subst hn
    have hq := fun W : World => Lib.run_eql_slice_nil (P := Try.prog) W 31 63 none 0 c 0 0 Try.underlying31
    go_enter Try.func62, Try.ntmps62
    go_wp2
    go_ret
    exact ⟨⟨none, 0, rfl, OwnL.nil_⟩, Below.refl _ _⟩
  | some a =>
    have hq := fun W : World => Lib.run_eql_slice_nil (P := Try.prog) W 31 63 (some a) l.length c 0 0 Try.underlying31
    go_enter Try.func62, Try.ntmps62
    have hown : OwnE (w.alloc (.cells #[] 63)) w.heap.size (.slice (some ⟨w.heap.size, 0, none⟩) 0 0) [] := OwnL.of_block (cs := #[]) (heap_alloc_new w _) (Nat.le_refl _) rfl (by unfold maxLen; simp) rfl ent_len
    have hb0 : Below w.heap.size w (w.alloc (.cells #[] 63)) := (Below.refl _ _).alloc (Nat.le_refl _) _
    go_wp2_with (at_builtin; go_loud (refine wpList_append_all _ rfl (.tmp 5) (.tmp 6) 31 63 rfl w.heap.size 5 40 Entry.cs elemEnt ent_len ent_one _ [] rfl hown (some a) c _ l rfl (hs.up hb0) (by first | omega | (simp; done) | (simp; omega)) (by first | omega | (simp; done) | (simp; omega)) (by first | omega | (simp; done) | (simp; omega)) ?_); intro v' w4 hown4 hgrow4 hat4)
    rw [List.nil_append] at hown4
    obtain ⟨A', c', rfl, _, _⟩ := hown4.form
    have hb4 : Below w.heap.size w w4 := below_push hb0 hown hgrow4 (by simp)
    go_ret
    exact ⟨⟨A', c', rfl, hown4.more hB⟩, hb4⟩

theorem postR_cases (l : List Entry) (x : Entry) : ((!ledOk l || !x.ok) = true ∧ postR l x = ([], 1)) ∨ (ledOk l = true ∧ x.ok = true ∧ begun l x.day = true ∧ postR l x = ([], 6)) ∨
    (ledOk l = true ∧ x.ok = true ∧ begun l x.day = false ∧ l.length = 5000 ∧ postR l x = ([], 2)) ∨ (ledOk l = true ∧ x.ok = true ∧ begun l x.day = false ∧ l.length < 5000 ∧ postR l x = (l ++ [x], 0)) := by
  unfold postR
  by_cases h1 : (!ledOk l || !x.ok) = true
  · rw [if_pos h1]
    exact .inl ⟨h1, rfl⟩
  · rw [if_neg h1]
    have h2 : ledOk l = true ∧ x.ok = true := by simpa using h1
    cases hb : begun l x.day with
    | true => rw [if_pos rfl]; exact .inr (.inl ⟨h2.1, h2.2, rfl, rfl⟩)
    | false =>
      rw [if_neg (by simp)]
      have h3 := (ledOk_iff.1 h2.1).1
      by_cases h5 : l.length = 5000
      · rw [if_pos h5]
        exact .inr (.inr (.inl ⟨h2.1, h2.2, rfl, h5, rfl⟩))
      · rw [if_neg h5]
        exact .inr (.inr (.inr ⟨h2.1, h2.2, rfl, by omega, rfl⟩))
theorem post_any (l : List Entry) (x : Entry) (A : Option Addr) (c : Nat) (w : World) (hs : SlEnt w A l) (hl : l.length ≤ 140737488355328) :
    Calls Try.prog 35 #[.slice A l.length c, x.v] w fun e w' => RetE (postR l x) e w' ∧ Below w.heap.size w w' := by
  rcases postR_cases l x with ⟨h1, hr⟩ | ⟨h1, h2, h3, hr⟩ | ⟨h1, h2, h3, h4, hr⟩ | ⟨h1, h2, h3, h4, hr⟩
  all_goals
    have HR := Lib.hid hr
    clear hr
  · cases hv : ledOk l with
    | false =>
      go_enter Try.func35, Try.ntmps35
      go_wp2_with ((go_at_call 56; refine (lvalid_any l A c _ (hs.up (by repeat' (first | (with_reducible exact Below.refl _ _) | (with_reducible assumption) | (with_reducible refine below_drewN ?_ _) | (with_reducible refine Below.drew ?_) | (with_reducible refine below_regrown_up _ _ ?_ ?_) | (with_reducible refine Below.alloc ?_ ?_ _) | (with_reducible refine Below.setCell ?_ ?_ _) | (with_reducible refine below_up ?_ ?_ (by assumption)) | (with_reducible exact Nat.le_refl _) | omega | (simp; done) | (simp; omega)))) hl).mono ?_; rintro e w1 ⟨rfl, hb1⟩; have hz1 := hb1.size; (try simp only [World.size_alloc, World.size_setCell, World.size_drew, size_drewN', size_grow, size_redrawn] at hz1); obtain ⟨hc1, hf1⟩ := bcellB (B := w.heap.size + 1) hb1 (by first | omega | (simp only [World.size_alloc, World.size_setCell, World.size_drew, size_drewN', size_grow, size_redrawn]; omega))); rw [hv])
      go_ret2
      refine ⟨by rw [HR.out]; exact retE_nil, ?_⟩
      repeat' (first
        | (with_reducible exact Below.refl _ _)
        | (with_reducible assumption)
        | (with_reducible refine below_drewN ?_ _)
        | (with_reducible refine Below.drew ?_)
        | (with_reducible refine below_regrown_up _ _ ?_ ?_)
        | (with_reducible refine Below.alloc ?_ ?_ _)
        | (with_reducible refine Below.setCell ?_ ?_ _)
        | (with_reducible refine below_up ?_ ?_ (by assumption))
        | (with_reducible exact Nat.le_refl _)
        | omega
        | (simp; done)
        | (simp; omega))
    | true =>
      have hx : x.ok = false := by simpa [hv] using h1
      go_enter Try.func35, Try.ntmps35
      go_wp2_with (first | (go_at_call 56; refine (lvalid_any l A c _ (hs.up (by repeat' (first | (with_reducible exact Below.refl _ _) | (with_reducible assumption) | (with_reducible refine below_drewN ?_ _) | (with_reducible refine Below.drew ?_) | (with_reducible refine below_regrown_up _ _ ?_ ?_) | (with_reducible refine Below.alloc ?_ ?_ _) | (with_reducible refine Below.setCell ?_ ?_ _) | (with_reducible refine below_up ?_ ?_ (by assumption)) | (with_reducible exact Nat.le_refl _) | omega | (simp; done) | (simp; omega)))) hl).mono ?_; rintro e w1 ⟨rfl, hb1⟩; have hz1 := hb1.size; (try simp only [World.size_alloc, World.size_setCell, World.size_drew, size_drewN', size_grow, size_redrawn] at hz1); obtain ⟨hc1, hf1⟩ := bcellB (B := w.heap.size + 1) hb1 (by first | omega | (simp only [World.size_alloc, World.size_setCell, World.size_drew, size_drewN', size_grow, size_redrawn]; omega))); rw [hv] | (go_at_call 60; refine (formed_any x _).mono ?_; rintro e w2 ⟨rfl, hb2⟩; have hz2 := hb2.size; (try simp only [World.size_alloc, World.size_setCell, World.size_drew, size_drewN', size_grow, size_redrawn] at hz2); obtain ⟨hc2, hf2⟩ := bcellB (B := w.heap.size + 1) hb2 (by first | omega | (simp only [World.size_alloc, World.size_setCell, World.size_drew, size_drewN', size_grow, size_redrawn]; omega))); rw [hx])
      go_ret2
      refine ⟨by rw [HR.out]; exact retE_nil, ?_⟩
      repeat' (first
        | (with_reducible exact Below.refl _ _)
        | (with_reducible assumption)
        | (with_reducible refine below_drewN ?_ _)
        | (with_reducible refine Below.drew ?_)
        | (with_reducible refine below_regrown_up _ _ ?_ ?_)
        | (with_reducible refine Below.alloc ?_ ?_ _)
        | (with_reducible refine Below.setCell ?_ ?_ _)
        | (with_reducible refine below_up ?_ ?_ (by assumption))
        | (with_reducible exact Nat.le_refl _)
        | omega
        | (simp; done)
        | (simp; omega))
  · go_enter Try.func35, Try.ntmps35
    go_wp2_with (first | (go_at_call 56; refine (lvalid_any l A c _ (hs.up (by repeat' (first | (with_reducible exact Below.refl _ _) | (with_reducible assumption) | (with_reducible refine below_drewN ?_ _) | (with_reducible refine Below.drew ?_) | (with_reducible refine below_regrown_up _ _ ?_ ?_) | (with_reducible refine Below.alloc ?_ ?_ _) | (with_reducible refine Below.setCell ?_ ?_ _) | (with_reducible refine below_up ?_ ?_ (by assumption)) | (with_reducible exact Nat.le_refl _) | omega | (simp; done) | (simp; omega)))) hl).mono ?_; rintro e w1 ⟨rfl, hb1⟩; have hz1 := hb1.size; (try simp only [World.size_alloc, World.size_setCell, World.size_drew, size_drewN', size_grow, size_redrawn] at hz1); obtain ⟨hc1, hf1⟩ := bcellB (B := w.heap.size + 1) hb1 (by first | omega | (simp only [World.size_alloc, World.size_setCell, World.size_drew, size_drewN', size_grow, size_redrawn]; omega))); rw [h1] | (go_at_call 60; refine (formed_any x _).mono ?_; rintro e w2 ⟨rfl, hb2⟩; have hz2 := hb2.size; (try simp only [World.size_alloc, World.size_setCell, World.size_drew, size_drewN', size_grow, size_redrawn] at hz2); obtain ⟨hc2, hf2⟩ := bcellB (B := w.heap.size + 1) hb2 (by first | omega | (simp only [World.size_alloc, World.size_setCell, World.size_drew, size_drewN', size_grow, size_redrawn]; omega))); rw [h2] | (go_at_call 61; refine (begun_any l A c x.day _ (hs.up (by repeat' (first | (with_reducible exact Below.refl _ _) | (with_reducible assumption) | (with_reducible refine below_drewN ?_ _) | (with_reducible refine Below.drew ?_) | (with_reducible refine below_regrown_up _ _ ?_ ?_) | (with_reducible refine Below.alloc ?_ ?_ _) | (with_reducible refine Below.setCell ?_ ?_ _) | (with_reducible refine below_up ?_ ?_ (by assumption)) | (with_reducible exact Nat.le_refl _) | omega | (simp; done) | (simp; omega)))) hl).mono ?_; rintro e w' ⟨rfl, rfl⟩); rw [h3])
    go_ret2
    refine ⟨by rw [HR.out]; exact retE_nil, ?_⟩
    repeat' (first
      | (with_reducible exact Below.refl _ _)
      | (with_reducible assumption)
      | (with_reducible refine below_drewN ?_ _)
      | (with_reducible refine Below.drew ?_)
      | (with_reducible refine below_regrown_up _ _ ?_ ?_)
      | (with_reducible refine Below.alloc ?_ ?_ _)
      | (with_reducible refine Below.setCell ?_ ?_ _)
      | (with_reducible refine below_up ?_ ?_ (by assumption))
      | (with_reducible exact Nat.le_refl _)
      | omega
      | (simp; done)
      | (simp; omega))
  · have h5 : ((l.length : Int) == 5000) = true := by rw [beq_iff_eq]; omega
    have H4 := Lib.hid h4
    clear h4
    go_enter Try.func35, Try.ntmps35
    go_wp2_with (first | (go_at_call 56; refine (lvalid_any l A c _ (hs.up (by repeat' (first | (with_reducible exact Below.refl _ _) | (with_reducible assumption) | (with_reducible refine below_drewN ?_ _) | (with_reducible refine Below.drew ?_) | (with_reducible refine below_regrown_up _ _ ?_ ?_) | (with_reducible refine Below.alloc ?_ ?_ _) | (with_reducible refine Below.setCell ?_ ?_ _) | (with_reducible refine below_up ?_ ?_ (by assumption)) | (with_reducible exact Nat.le_refl _) | omega | (simp; done) | (simp; omega)))) hl).mono ?_; rintro e w1 ⟨rfl, hb1⟩; have hz1 := hb1.size; (try simp only [World.size_alloc, World.size_setCell, World.size_drew, size_drewN', size_grow, size_redrawn] at hz1); obtain ⟨hc1, hf1⟩ := bcellB (B := w.heap.size + 1) hb1 (by first | omega | (simp only [World.size_alloc, World.size_setCell, World.size_drew, size_drewN', size_grow, size_redrawn]; omega))); rw [h1] | (go_at_call 60; refine (formed_any x _).mono ?_; rintro e w2 ⟨rfl, hb2⟩; have hz2 := hb2.size; (try simp only [World.size_alloc, World.size_setCell, World.size_drew, size_drewN', size_grow, size_redrawn] at hz2); obtain ⟨hc2, hf2⟩ := bcellB (B := w.heap.size + 1) hb2 (by first | omega | (simp only [World.size_alloc, World.size_setCell, World.size_drew, size_drewN', size_grow, size_redrawn]; omega))); rw [h2] | (go_at_call 61; refine (begun_any l A c x.day _ (hs.up (by repeat' (first | (with_reducible exact Below.refl _ _) | (with_reducible assumption) | (with_reducible refine below_drewN ?_ _) | (with_reducible refine Below.drew ?_) | (with_reducible refine below_regrown_up _ _ ?_ ?_) | (with_reducible refine Below.alloc ?_ ?_ _) | (with_reducible refine Below.setCell ?_ ?_ _) | (with_reducible refine below_up ?_ ?_ (by assumption)) | (with_reducible exact Nat.le_refl _) | omega | (simp; done) | (simp; omega)))) hl).mono ?_; rintro e w' ⟨rfl, rfl⟩); rw [h3])
    go_ret2
    refine ⟨by rw [HR.out]; exact retE_nil, ?_⟩
    repeat' (first
      | (with_reducible exact Below.refl _ _)
      | (with_reducible assumption)
      | (with_reducible refine below_drewN ?_ _)
      | (with_reducible refine Below.drew ?_)
      | (with_reducible refine below_regrown_up _ _ ?_ ?_)
      | (with_reducible refine Below.alloc ?_ ?_ _)
      | (with_reducible refine Below.setCell ?_ ?_ _)
      | (with_reducible refine below_up ?_ ?_ (by assumption))
      | (with_reducible exact Nat.le_refl _)
      | omega
      | (simp; done)
      | (simp; omega))
  · have h5 : ((l.length : Int) == 5000) = false := by rw [beq_eq_false_iff_ne]; omega
    go_enter Try.func35, Try.ntmps35
    go_wp2_with (first | (go_at_call 56; refine (lvalid_any l A c _ (hs.up (by repeat' (first | (with_reducible exact Below.refl _ _) | (with_reducible assumption) | (with_reducible refine below_drewN ?_ _) | (with_reducible refine Below.drew ?_) | (with_reducible refine below_regrown_up _ _ ?_ ?_) | (with_reducible refine Below.alloc ?_ ?_ _) | (with_reducible refine Below.setCell ?_ ?_ _) | (with_reducible refine below_up ?_ ?_ (by assumption)) | (with_reducible exact Nat.le_refl _) | omega | (simp; done) | (simp; omega)))) hl).mono ?_; rintro e w1 ⟨rfl, hb1⟩; have hz1 := hb1.size; (try simp only [World.size_alloc, World.size_setCell, World.size_drew, size_drewN', size_grow, size_redrawn] at hz1); obtain ⟨hc1, hf1⟩ := bcellB (B := w.heap.size + 1) hb1 (by first | omega | (simp only [World.size_alloc, World.size_setCell, World.size_drew, size_drewN', size_grow, size_redrawn]; omega))); rw [h1] | (go_at_call 60; refine (formed_any x _).mono ?_; rintro e w2 ⟨rfl, hb2⟩; have hz2 := hb2.size; (try simp only [World.size_alloc, World.size_setCell, World.size_drew, size_drewN', size_grow, size_redrawn] at hz2); obtain ⟨hc2, hf2⟩ := bcellB (B := w.heap.size + 1) hb2 (by first | omega | (simp only [World.size_alloc, World.size_setCell, World.size_drew, size_drewN', size_grow, size_redrawn]; omega))); rw [h2] | (go_at_call 61; refine (begun_any l A c x.day _ (hs.up (by repeat' (first | (with_reducible exact Below.refl _ _) | (with_reducible assumption) | (with_reducible refine below_drewN ?_ _) | (with_reducible refine Below.drew ?_) | (with_reducible refine below_regrown_up _ _ ?_ ?_) | (with_reducible refine Below.alloc ?_ ?_ _) | (with_reducible refine Below.setCell ?_ ?_ _) | (with_reducible refine below_up ?_ ?_ (by assumption)) | (with_reducible exact Nat.le_refl _) | omega | (simp; done) | (simp; omega)))) hl).mono ?_; rintro e w' ⟨rfl, rfl⟩); rw [h3])
    have hb02 : Below w.heap.size w w2 := by
      repeat' (first
        | (with_reducible exact Below.refl _ _)
        | (with_reducible assumption)
        | (with_reducible refine below_drewN ?_ _)
        | (with_reducible refine Below.drew ?_)
        | (with_reducible refine below_regrown_up _ _ ?_ ?_)
        | (with_reducible refine Below.alloc ?_ ?_ _)
        | (with_reducible refine Below.setCell ?_ ?_ _)
        | (with_reducible refine below_up ?_ ?_ (by assumption))
        | (with_reducible exact Nat.le_refl _)
        | omega
        | (simp; done)
        | (simp; omega))
    go_region_law (first
      | (go_simp; go_at_call 62; go_loud (refine (clone_any l A c _ w.heap.size (hs.up (by repeat' (first | (with_reducible exact Below.refl _ _) | (with_reducible assumption) | (with_reducible refine below_drewN ?_ _) | (with_reducible refine Below.drew ?_) | (with_reducible refine below_regrown_up _ _ ?_ ?_) | (with_reducible refine Below.alloc ?_ ?_ _) | (with_reducible refine Below.setCell ?_ ?_ _) | (with_reducible refine below_up ?_ ?_ (by assumption)) | (with_reducible exact Nat.le_refl _) | omega | (simp; done) | (simp; omega)))) (by omega) (by first | omega | (simp; done) | (simp; omega))).mono ?_); rintro e w3 ⟨⟨A3, c3, rfl, hown3⟩, hb3⟩; have hz3 := hb3.size; (try simp only [World.size_alloc, World.size_drew] at hz3); obtain ⟨hc3, hf3⟩ := bcellB (B := w.heap.size + 1) hb3 (by first | omega | (simp; done) | (simp; omega)))
      | (go_loud (refine step_push _ (by rfl) (.tmp 25) (.tmp 27) 31 63 (by rfl) w.heap.size 5 40 Entry.cs elemEnt ent_len ent_one _ l (by rfl) (by first | exact hown3 | exact hown3.alloc _) _ 1 x (by rfl) (by first | exact news_new _ _ _ _ rfl | exact fun j u hu => (hb3.cell (p := ⟨_, j, none⟩) (by simp)).trans (news_new _ _ _ _ rfl j u hu)) (by omega) (by omega) (by first | omega | (simp; done) | (simp; omega)) _ (by first | rfl | (simp; done)) ?_); intro gg cap w4 hown4 hgrow4 hat4 hlt4))
    all_goals
      go_wp2_with fail
      go_ret2
      refine ⟨by rw [HR.out]; exact retE_own hown4, ?_⟩
      first
        | exact below_push (by repeat' (first | (with_reducible exact Below.refl _ _) | (with_reducible assumption) | (with_reducible refine below_drewN ?_ _) | (with_reducible refine Below.drew ?_) | (with_reducible refine below_regrown_up _ _ ?_ ?_) | (with_reducible refine Below.alloc ?_ ?_ _) | (with_reducible refine Below.setCell ?_ ?_ _) | (with_reducible refine below_up ?_ ?_ (by assumption)) | (with_reducible exact Nat.le_refl _) | omega | (simp; done) | (simp; omega))) hown3 hgrow4 (by first | omega | (simp; done) | (simp; omega))
        | exact below_push (by repeat' (first | (with_reducible exact Below.refl _ _) | (with_reducible assumption) | (with_reducible refine below_drewN ?_ _) | (with_reducible refine Below.drew ?_) | (with_reducible refine below_regrown_up _ _ ?_ ?_) | (with_reducible refine Below.alloc ?_ ?_ _) | (with_reducible refine Below.setCell ?_ ?_ _) | (with_reducible refine below_up ?_ ?_ (by assumption)) | (with_reducible exact Nat.le_refl _) | omega | (simp; done) | (simp; omega))) (hown3.alloc _) hgrow4 (by first | omega | (simp; done) | (simp; omega))

end Go.Proofs.Ythnncojbckifnaa
