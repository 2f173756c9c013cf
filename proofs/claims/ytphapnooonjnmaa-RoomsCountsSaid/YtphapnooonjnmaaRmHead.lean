/-
  Rooms: the examples.
-/
import Derived.Test.YtphapnooonjnmaaRmW7
import Derived.Test.YtphapnooonjnmaaRmW8
import Derived.Test.YtphapnooonjnmaaRmUse
import Derived.Deep.RegionHeld3
namespace Go.Proofs.Ytphapnooonjnmaa
set_option linter.unusedSimpArgs false
set_option linter.unusedVariables false
open Go.RowKit
open Go.Sort (grow size_grow)

set_option maxHeartbeats 4000000
set_option maxRecDepth 100000
def ex7 : Room := ⟨7, 1, 2, 8, false, [⟨3, 5⟩]⟩
def ex8 : Room := ⟨8, 1, 2, 7, false, []⟩
def exL : List Room := [ex7, ex8]
def exM : List Room := [⟨7, 1, 2, 8, false, [⟨3, 9⟩]⟩, ex8]
def exA : List Room := [⟨7, 1, 2, 0, false, [⟨3, 5⟩]⟩, ex8]
theorem exL_ok : roomsOk exL = true := by decide
theorem exA_no : roomsOk exA = false := by decide
theorem exL_tame : Tame exL := by unfold Tame exL ex7 ex8; simp
theorem exA_tame : Tame exA := by unfold Tame exA ex8; simp
theorem ex_c4 : countM exL 1 2 4 = (1, 0) := by decide
theorem ex_c5 : countM exL 1 2 5 = (2, 0) := by decide
theorem ex_f8 : findS exL 8 = (1, true, 0) := by decide
theorem ex_fr3 : freeS ex7 ⟨0, 3⟩ = (true, 0) := by decide
theorem ex_fr4 : freeS ex7 ⟨0, 4⟩ = (false, 0) := by decide
theorem ex_bu : IsComb fU [⟨3, 5⟩] [⟨5, 9⟩] [⟨3, 9⟩] := by
  refine ⟨⟨by simp, List.pairwise_singleton _ _⟩, by simp, fun n => ?_⟩
  rw [Bool.eq_iff_iff]
  simp [has, inS, fU]
  omega
theorem ex_b7 : BlockR exL 7 ⟨5, 9⟩ exM 0 := by
  unfold BlockR
  rw [if_pos (by decide)]
  exact .inr ⟨0, by decide, [⟨3, 9⟩], by decide, ex_bu, by decide, rfl, rfl⟩
theorem ex_b9 : BlockR exL 9 ⟨5, 9⟩ [] 4 := by
  unfold BlockR
  rw [if_pos (by decide)]
  exact .inl ⟨by decide, rfl, rfl⟩
theorem block_lit {l res : List Room} {a er : Int} {s : Spn} (h : BlockR l a s res er) (A : Option Addr) (c : Nat) (w : World) (hs : SlRoom w A l) (hT : Tame l) (hroom : l.length ≤ c) (hl : l.length ≤ 140737488355328) :
    Calls Try.prog 17 #[.slice A l.length c, .int .i64 a, s.v] w fun e w' => (∃ A' c', e = .returned (.tuple #[.slice A' res.length c', .int .i64 er]) ∧ SlRoom w' A' res ∧ res.length ≤ c') ∧ Below w.heap.size w w' := by
  refine (block_any l A c a s w hs hT hroom hl).mono fun e w' ⟨⟨r', A', c', er', h1, h2, h3, h4⟩, h5⟩ => ⟨?_, h5⟩
  obtain ⟨rfl, rfl⟩ := h.eq h3
  exact ⟨A', c', h1, h2, h4⟩
theorem exL_sl (w : World) (n : Nat) (hn : w.heap.size = n) : SlRoom ((w.alloc (.cells #[.int .i64 3, .int .i64 5] 27)).alloc (.cells #[.int .i64 7, .int .i64 1, .int .i64 2, .int .i64 8, .bool false, .slice (some ⟨n, 0, none⟩) 1 1, .int .i64 8, .int .i64 1, .int .i64 2, .int .i64 7, .bool false, .slice none 0 0] 25)) (some ⟨n + 1, 0, none⟩) exL := by
  subst hn
  intro _
  refine ⟨w.heap.size + 1, 0, rfl, by simp, fun k hk => ?_⟩
  match k, hk with
  | 0, _ =>
    refine ⟨some ⟨w.heap.size, 0, none⟩, 1, fun j v hv => ?_, ?_⟩
    · rw [World.cell?_alloc_at _ _ _ _ (by simp)]
      match j, hv with
      | 0, hv => exact hv
      | 1, hv => exact hv
      | 2, hv => exact hv
      | 3, hv => exact hv
      | 4, hv => exact hv
      | 5, hv => exact hv
    · exact (oneSpn ⟨3, 5⟩ w _ rfl).up ((Below.refl _ _).alloc (Nat.le_refl _) _)
  | 1, _ =>
    refine ⟨none, 0, fun j v hv => ?_, Sl.nil_⟩
    rw [World.cell?_alloc_at _ _ _ _ (by simp)]
    match j, hv with
    | 0, hv => exact hv
    | 1, hv => exact hv
    | 2, hv => exact hv
    | 3, hv => exact hv
    | 4, hv => exact hv
    | 5, hv => exact hv
theorem head16_any (w : World) : Calls Try.prog 9 #[] w fun e w' => e = .returned (.bool true) ∧ Below w.heap.size w w' := by
  go_enter Try.func9, Try.ntmps9
  go_wp2_with fail
  refine (span16_any 3 5 _).mono ?_
  rintro e w1 ⟨rfl, b1⟩
  go_wp2_with fail
  refine name_calls (fun w2 hw2 => ?_)
  have b2 : Below w1.heap.size w1 w2 := by
    rw [hw2]
    repeat' (first
      | (with_reducible exact Below.refl _ _)
      | (with_reducible assumption)
      | (with_reducible refine below_drewN ?_ _)
      | (with_reducible refine Below.drew ?_)
      | (with_reducible refine below_regrown_up _ _ ?_ ?_)
      | (with_reducible refine Below.alloc ?_ ?_ _)
      | (with_reducible refine Below.setCell ?_ ?_ _)
      | (with_reducible refine below_up ?_ ?_ (by assumption))
      | (with_reducible exact Nat.le_refl _)
      | omega
      | (simp; done)
      | (simp; omega))
  have s2 : SlRoom w2 (some ⟨w1.heap.size + 1, 0, none⟩) exL := by rw [hw2]; exact exL_sl w1 _ rfl
  have t2 : SlSpn w2 (some ⟨w1.heap.size, 0, none⟩) [⟨3, 5⟩] := by rw [hw2]; exact (oneSpn ⟨3, 5⟩ w1 _ rfl).up ((Below.refl _ _).alloc (Nat.le_refl _) _)
  have hcs : ∀ j v, (ex7.cs (some ⟨w1.heap.size, 0, none⟩) 1)[j]? = some v → w2.cell? ⟨w1.heap.size + 1, j, none⟩ = some v := by
    intro j v hv
    rw [hw2, World.cell?_alloc_at _ _ _ _ (by simp)]
    match j, hv with
    | 0, hv => exact hv
    | 1, hv => exact hv
    | 2, hv => exact hv
    | 3, hv => exact hv
    | 4, hv => exact hv
    | 5, hv => exact hv
  have l2 : w1.heap.size + 1 < w2.heap.size := by rw [hw2]; simp
  clear hw2
  have B2 := below_up b1 b1.size b2
  refine (cntm_any exL _ 2 1 2 4 w2 s2 (by decide) exL_tame).mono ?_
  rintro e w3 ⟨rfl, b3⟩
  rw [ex_c4]
  have B3 := below_up B2 B2.size b3
  have S3 := s2.up b3
  go_wp2_with fail
  refine (cntm_any exL _ 2 1 2 5 _ S3 (by decide) exL_tame).mono ?_
  rintro e w4 ⟨rfl, b4⟩
  rw [ex_c5]
  have B4 := below_up B3 B3.size b4
  have S4 := S3.up b4
  have k34 : Below w2.heap.size w2 w4 := below_up b3 b3.size b4
  go_wp2_with fail
  refine (span16_any 5 9 _).mono ?_
  rintro e w5 ⟨rfl, b5⟩
  have B5 := below_up B4 B4.size b5
  have S5 := S4.up b5
  have k5 := below_up k34 k34.size b5
  go_wp2_with fail
  refine (block_lit ex_b7 _ 2 _ S5 exL_tame (by decide) (by decide)).mono ?_
  rintro e w6 ⟨⟨A6, c6, rfl, s6, r6⟩, b6⟩
  have B6 := below_up B5 B5.size b6
  have S6 := S5.up b6
  have k6 := below_up k5 k5.size b6
  go_wp2_with fail
  refine (find_any exL _ 2 8 _ S6 (by decide) exL_tame).mono ?_
  rintro e w7 ⟨rfl, b7⟩
  rw [ex_f8]
  have B7 := below_up B6 B6.size b7
  have S7 := S6.up b7
  have k7 := below_up k6 k6.size b7
  have T7 := t2.up k7
  have c0 := (k7.cell (p := ⟨w1.heap.size + 1, 0, none⟩) l2).trans (hcs 0 _ rfl)
  have c1 := (k7.cell (p := ⟨w1.heap.size + 1, 1, none⟩) l2).trans (hcs 1 _ rfl)
  have c2 := (k7.cell (p := ⟨w1.heap.size + 1, 2, none⟩) l2).trans (hcs 2 _ rfl)
  have c3 := (k7.cell (p := ⟨w1.heap.size + 1, 3, none⟩) l2).trans (hcs 3 _ rfl)
  have c4 := (k7.cell (p := ⟨w1.heap.size + 1, 4, none⟩) l2).trans (hcs 4 _ rfl)
  have c5 := (k7.cell (p := ⟨w1.heap.size + 1, 5, none⟩) l2).trans (hcs 5 _ rfl)
  have l7 : w1.heap.size + 1 < w7.heap.size := Nat.lt_of_lt_of_le l2 k7.size
  clear hcs
  dsimp only [ex7] at c0 c1 c2 c3 c4 c5
  go_wp2_with fail
  have hgr := regrown_cells w7 (B := w7.heap.size) (by omega)
  refine wp_region_quiet_below (by kernel_rfl) (by kernel_rfl) ?_
  repeat (quiet_step ((first | (go_at_call 24; exact quiet_b (span16_any _ _ _)) | (go_at_call 15; exact quiet_b (free_any ex7 (some ⟨w1.heap.size, 0, none⟩) 1 ⟨0, 3⟩ _ (T7.up (below_regrown _ _ _)) (by decide))))))
  refine wpQuiet_nil ?_
  intro _ hw'
  obtain ⟨⟨dq, osq⟩, hw''⟩ := hw'
  subst hw''
  have hb8 := below_regrown w7 dq osq
  clear hgr
  generalize grow (redrawn w7 dq) osq = w8 at hb8 ⊢
  have hz8 := hb8.size
  (try simp only [World.size_alloc, World.size_setCell, World.size_drew, size_drewN', size_grow, size_redrawn] at hz8)
  obtain ⟨hc8, hf8⟩ := bcellB (B := w7.heap.size) hb8 (by first | omega | (simp only [World.size_alloc, World.size_setCell, World.size_drew, size_drewN', size_grow, size_redrawn]; omega))
  rw [ex_fr3]
  have B8 := below_up B7 B7.size hb8
  have S8 := S7.up hb8
  have T8 := T7.up hb8
  have k8 := below_up k7 k7.size hb8
  have l8 : w1.heap.size + 1 < w8.heap.size := by omega
  go_wp2_with fail
  have hgr := regrown_cells w8 (B := w8.heap.size) (by omega)
  refine wp_region_quiet_below (by kernel_rfl) (by kernel_rfl) ?_
  repeat (quiet_step ((first | (go_at_call 24; exact quiet_b (span16_any _ _ _)) | (go_at_call 15; exact quiet_b (free_any ex7 (some ⟨w1.heap.size, 0, none⟩) 1 ⟨0, 4⟩ _ (T8.up (below_regrown _ _ _)) (by decide))))))
  refine wpQuiet_nil ?_
  intro _ hw'
  obtain ⟨⟨dq, osq⟩, hw''⟩ := hw'
  subst hw''
  have hb9 := below_regrown w8 dq osq
  clear hgr
  generalize grow (redrawn w8 dq) osq = w9 at hb9 ⊢
  have hz9 := hb9.size
  (try simp only [World.size_alloc, World.size_setCell, World.size_drew, size_drewN', size_grow, size_redrawn] at hz9)
  obtain ⟨hc9, hf9⟩ := bcellB (B := w8.heap.size) hb9 (by first | omega | (simp only [World.size_alloc, World.size_setCell, World.size_drew, size_drewN', size_grow, size_redrawn]; omega))
  rw [ex_fr4]
  have B9 := below_up B8 B8.size hb9
  have S9 := S8.up hb9
  have k9 := below_up k8 k8.size hb9
  clear c0 c1 c2 c3 c4 c5 hc8 hc9
  go_wp2_with fail
  refine (span16_any 5 9 _).mono ?_
  rintro e w10 ⟨rfl, b10⟩
  have B10 := below_up B9 B9.size b10
  have S10 := S9.up b10
  go_wp2_with fail
  refine (block_lit ex_b9 _ 2 _ S10 exL_tame (by decide) (by decide)).mono ?_
  rintro e w11 ⟨⟨A11, c11, rfl, s11, r11⟩, b11⟩
  have B11 := below_up B10 B10.size b11
  have S11 := S10.up b11
  have hm : exM.length = 2 := rfl
  rw [hm]
  have M11 := (s6.up (below_up b7 b7.size hb8)).up (below_up hb9 hb9.size (below_up b10 b10.size b11))
  obtain ⟨bm, om, Am, cm, hAm, hbm, hmc, hms⟩ := M11.at_ (k := 0) (by decide)
  subst hAm
  have m5 := hmc 5 (.slice Am 1 cm) rfl
  clear hmc
  obtain ⟨L, hLl, hLs, hLp⟩ := S11.toA
  have hLn : L.length = 2 := by rw [← List.length_map (f := (·.1)), hLl]; rfl
  obtain ⟨x, y, rfl⟩ : ∃ x y, L = [x, y] := by
    match L, hLn with
    | [x, y], _ => exact ⟨x, y, rfl⟩
  have hL0 : x.1 = ex7 := by
    simp only [List.map_cons, List.map_nil, exL] at hLl
    injection hLl
  have hL1 : y.1 = ex8 := by
    simp only [List.map_cons, List.map_nil, exL] at hLl
    injection hLl with _ h
    injection h
  have HL := Lib.hid (And.intro hLl hLp)
  clear hLl hLp
  have hnil : OwnL (w11.alloc (.cells #[] 25)) w11.heap.size 25 6 encA (.slice (some ⟨w11.heap.size, 0, none⟩) 0 0) [] := OwnL.of_block (cs := #[]) (g := w11.heap.size) (cap := 0) (heap_alloc_new w11 _) (Nat.le_refl _) rfl (by decide) rfl encA_len
  go_wp2_with (at_builtin; go_loud (refine wpList_append_all _ rfl (.tmp 98) (.tmp 99) 22 25 rfl w11.heap.size 6 64 encA elemRoom encA_len encA_one _ [] rfl hnil (some ⟨w1.heap.size + 1, 0, none⟩) 2 _ [x, y] rfl (hLs.below ((Below.refl _ _).alloc (by simp) _)) (by simp) (by first | omega | (simp; done) | (simp; omega)) (by simp) ?_); intro v12 w12 hown12 hgrow12 hat12; rw [List.nil_append] at hown12; have hb12 := below_push (B := w11.heap.size) (e := 25) (size := 6) (enc := encA) (L := []) ((Below.refl _ _).alloc (by simp) _) hnil hgrow12 (by simp); clear hat12)
  obtain ⟨g, cap, rfl, hgb, hgl, hle, hsl12, hfz⟩ := own_open encA_len hown12 (by simp)
  have h2' : [x, y].length = 2 := rfl
  rw [h2'] at hle ⊢
  have hg12 := hsl12.cells (show 0 < [x, y].length by simp)
  have gl : w12.cell? ⟨g, 3, none⟩ = some (.int .i64 x.1.joins) := by
    have := hg12.2 3 _ rfl
    simpa using this
  have gf := hfz 3
  have rc := room_cell (y := ((⟨7, 1, 2, 0, false, [⟨3, 5⟩]⟩ : Room), x.2.1, x.2.2)) (v := .int .i64 0) (k := 0) (r := 3) hown12 rfl (by simp) (by decide) (by
    show encA _ = (encA x).set 3 _
    unfold encA Room.cs
    rw [hL0]
    rfl) (fun z hz => by
    rcases List.mem_or_eq_of_mem_set hz with hx | rfl
    · exact HL.out.2 z hx
    · have := HL.out.2 x (by simp)
      rw [hL0] at this
      exact this) hb12
  have RC : Hid (SlRoom (w12.setCell ⟨g, 3, none⟩ (.int .i64 0)) (some ⟨g, 0, none⟩) exA ∧ Below w11.heap.size w11 (w12.setCell ⟨g, 3, none⟩ (.int .i64 0))) := Lib.hid (by
    have e : ([x, y].set 0 ((⟨7, 1, 2, 0, false, [⟨3, 5⟩]⟩ : Room), x.2.1, x.2.2)).map (·.1) = exA := by
      simp only [List.set_cons_zero, List.map_cons, List.map_nil, hL1]
      rfl
    rw [e] at rc
    exact rc)
  clear rc
  clear hfz hg12 hsl12 hgrow12
  have hxa : (0 : Int) < ((2 : Nat) : Int) := by decide
  have hxb : (0 : Int) ≤ 0 := by decide
  go_wp2_with fail
  have hxx : (Go.Instr.indexAt 22 (.slice (some ⟨g, 0, none⟩) 2 cap) (.int .i64 0)).run Try.prog w12 = .ok (.pointer (some ⟨g, 0, none⟩)) w12 := by
    rw [Go.run_indexAt_slice (P := Try.prog) (w := w12) 22 ⟨g, 0, none⟩ 2 cap .i64 0 (by kernel_rfl)]
    go_simp
  rw [hxx]
  go_wp2_with fail
  obtain ⟨sA, bA⟩ := RC.out
  clear hown12 hnil gl gf hxx hxa hxb RC
  generalize w12.setCell ⟨g, 3, none⟩ (.int .i64 0) = w13 at sA bA ⊢
  have B13 := below_up B11 B11.size bA
  have S13 := S11.up bA
  have m13 : w13.cell? ⟨bm, om + 5, none⟩ = some (.slice Am 1 cm) := (bA.cell (p := ⟨bm, om + 5, none⟩) hbm).trans (by simpa using m5)
  have hbm13 : bm < w13.heap.size := Nat.lt_of_lt_of_le hbm bA.size
  have hms13 : SlSpn w13 Am [⟨3, 9⟩] := hms.up bA
  clear m5 hms hL0 hL1 hLs HL S11 B11 b11 b10
  have KS := Lib.hid (fun (W : World) (h : Below w13.heap.size w13 W) => And.intro ((h.cell (p := ⟨bm, om + 5, none⟩) hbm13).trans m13) h)
  have HS1 : Hid True := Lib.hid trivial
  go_region_held3 (fun W => W.cell? ⟨bm, om + 5, none⟩ = some (.slice Am 1 cm) ∧ Below w13.heap.size w13 W)
    ((go_split_ands; refine KS.out _ ?_; repeat' (first
        | (with_reducible exact Below.refl _ _)
        | (with_reducible assumption)
        | (with_reducible refine Below.drew ?_)
        | (with_reducible refine Below.alloc ?_ ?_ _)
        | (with_reducible refine below_up ?_ ?_ (by assumption))
        | omega
        | (simp; done)
        | (simp; omega))))
    (first
      | (go_at_call 24; refine (span16_any 3 9 _).mono ?_; rintro e w14 ⟨rfl, b14⟩; have hz14 := b14.size; try simp only [World.size_alloc, World.size_drew] at hz14)
      | (go_at_call 27; refine (same_any [⟨3, 9⟩] [⟨3, 9⟩] Am (some ⟨w14.heap.size, 0, none⟩) cm 1 _ (hms13.up (by repeat' (first | (with_reducible exact Below.refl _ _) | (with_reducible assumption) | (with_reducible refine Below.drew ?_) | (with_reducible refine Below.alloc ?_ ?_ _) | (with_reducible refine below_up ?_ ?_ (by assumption)) | omega | (simp; done) | (simp; omega)))) (oneSpn ⟨3, 9⟩ w14 _ rfl) (by decide) (by decide)).mono ?_; rintro e w15 ⟨rfl, b15⟩; rw [decide_eq_true rfl]; have hz15 := b15.size; try simp only [World.size_alloc, World.size_drew] at hz15)
      | (have _ := HS1; clear HS1; go_at_call 13; refine (rmvalid_any exL _ 2 _ (S13.up (by repeat' (first | (with_reducible exact Below.refl _ _) | (with_reducible assumption) | (with_reducible refine Below.drew ?_) | (with_reducible refine Below.alloc ?_ ?_ _) | (with_reducible refine below_up ?_ ?_ (by assumption)) | omega | (simp; done) | (simp; omega)))) (by decide) exL_tame).mono ?_; rintro e w16 ⟨rfl, b16⟩; rw [exL_ok]; have hz16 := b16.size)
      | (go_at_call 13; refine (rmvalid_any exA _ cap _ (sA.up (by repeat' (first | (with_reducible exact Below.refl _ _) | (with_reducible assumption) | (with_reducible refine Below.drew ?_) | (with_reducible refine Below.alloc ?_ ?_ _) | (with_reducible refine below_up ?_ ?_ (by assumption)) | omega | (simp; done) | (simp; omega)))) (by decide) exA_tame).mono ?_; rintro e w17 ⟨rfl, b17⟩; rw [exA_no]; have hz17 := b17.size))
  all_goals
    rename_i hHeld
    go_wp2_with fail
    go_ret
    exact ⟨ret_bool (by simp), below_up B13 B13.size hHeld.2⟩
end Go.Proofs.Ytphapnooonjnmaa
