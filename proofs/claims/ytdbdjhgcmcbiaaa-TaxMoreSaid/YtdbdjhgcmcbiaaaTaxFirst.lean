/-
  The law 'TaxFirst': the walk.
-/
import Derived.Test.YtdbdjhgcmcbiaaaTaxArgs
import Derived.Test.YtdbdjhgcmcbiaaaTwo
namespace Go.Proofs.Ytdbdjhgcmcbiaaa
set_option linter.unusedSimpArgs false
set_option linter.unusedVariables false
open Go.RowKit Go.Maps
open Go.Sort (grow size_grow)

set_option maxHeartbeats 4000000
set_option maxRecDepth 100000

def withFirst (t : Tax) (k : Int) : Tax := ⟨t.id, t.place, t.night, t.n, t.d, k, t.round⟩
theorem rnd_mono {n n' d way : Int} (hd : 1 ≤ d) (hw : way = 1 ∨ way = 2 ∨ way = 3) (h : n ≤ n') : rnd n d way ≤ rnd n' d way := by
  have s := rnd_spec n way hd
  have s' := rnd_spec n' way hd
  apply Int.not_lt.1
  intro hlt
  have h1 : (rnd n' d way + 1) * d ≤ rnd n d way * d := Int.mul_le_mul_of_nonneg_right (by omega) (by omega)
  rw [Int.add_mul] at h1
  obtain ⟨⟨s1, s2⟩, s3⟩ := s
  obtain ⟨⟨t1, t2⟩, t3⟩ := s'
  generalize rnd n d way = m at *
  generalize rnd n' d way = m' at *
  rcases hw with hw | hw | hw
  · have := s1 hw
    have := t1 hw
    omega
  · have := s2 hw
    have := t2 hw
    omega
  · have a := s3 hw
    have b := t3 hw
    have h2 : m * d = m' * d + d := by omega
    have h3 : m = m' + 1 := by
      have : m * d = (m' + 1) * d := by rw [Int.add_mul]; omega
      exact Int.eq_of_mul_eq_mul_right (by omega) this
    omega
theorem firstN_zero (t : Tax) (b : Bill) : firstN (withFirst t 0) b = b.til - b.frm := by simp [firstN, withFirst]
theorem firstN_k (t : Tax) (b : Bill) {k : Int} (hk : 1 ≤ k) : firstN (withFirst t k) b = min (b.til - b.frm) k := by
  unfold firstN
  rw [if_pos (by simpa [withFirst] using (show 0 < k by omega))]
  rfl
theorem withFirst_ok (t : Tax) {k : Int} (h1 : 1 ≤ k) (h2 : k ≤ 60) : (withFirst t k).ok = (withFirst t 0).ok := by
  have e1 : inB k 0 60 = true := inB_t (by omega) h2
  have e2 : inB 0 0 60 = true := by decide
  show (ratOk t.n t.d && inB t.n 0 t.d && (inB t.id 1 1000000 && inB t.place 1 99 && inB t.night 0 100000) && inB k 0 60 && inB t.round 1 3) = (ratOk t.n t.d && inB t.n 0 t.d && (inB t.id 1 1000000 && inB t.place 1 99 && inB t.night 0 100000) && inB 0 0 60 && inB t.round 1 3)
  rw [e1, e2]
theorem exN_mono (t : Tax) (b : Bill) {k : Int} (hk : 1 ≤ k) (ht : (withFirst t 0).ok = true) (hb : b.ok = true) : exN (withFirst t k) b ≤ exN (withFirst t 0) b := by
  obtain ⟨n1, n2, f0, f1, d0, d1, x0, x1, a0, a1, c0, c1, e0, e1, p0, p1, q0, q1⟩ := exB ht hb
  have h2 : 0 ≤ t.night ∧ t.night ≤ 100000 := (Tax.ok_iff.1 ht).2.2.2.2.1
  obtain ⟨_, _, g3, _⟩ := Bill.ok_iff.1 hb
  unfold exN
  rw [firstN_zero, firstN_k t b hk]
  have hm : min (b.til - b.frm) k ≤ b.til - b.frm := Int.min_le_left _ _
  show t.night * _ * _ * ((b.til - b.frm) * t.d) + t.n * b.price * _ ≤ t.night * _ * _ * ((b.til - b.frm) * t.d) + t.n * b.price * _
  exact Int.add_le_add (Int.mul_le_mul_of_nonneg_right (Int.mul_le_mul_of_nonneg_right (Int.mul_le_mul_of_nonneg_left hm h2.1) (by omega)) (by simpa [withFirst] using (show (0 : Int) ≤ (b.til - b.frm) * (withFirst t 0).d by omega))) (Int.mul_le_mul_of_nonneg_left hm p0)
theorem first_cases (t : Tax) (b : Bill) {k : Int} (h1 : 1 ≤ k) (h2 : k ≤ 60) :
    (one (withFirst t 0) b = (0, 1) ∧ one (withFirst t k) b = (0, 1)) ∨
    ((0 ≤ b.frm ∧ b.frm < b.til ∧ b.til ≤ 366) ∧ ((b.til - b.frm ≤ k ∧ ∃ m e, one (withFirst t 0) b = (m, e) ∧ one (withFirst t k) b = (m, e) ∧ (e = 0 ∨ e = 3)) ∨
      (k < b.til - b.frm ∧ ((∃ m e, one (withFirst t 0) b = (0, 3) ∧ one (withFirst t k) b = (m, e)) ∨ ∃ m m', one (withFirst t 0) b = (m, 0) ∧ one (withFirst t k) b = (m', 0) ∧ m' ≤ m)))) := by
  have hok := withFirst_ok t h1 h2
  by_cases h : (!(withFirst t 0).ok || !b.ok) = true
  · left
    unfold one
    rw [hok, if_pos h, if_pos h]
    exact ⟨rfl, rfl⟩
  · have ht : (withFirst t 0).ok = true := by simp at h; exact h.1
    have hb : b.ok = true := by simp at h; exact h.2
    obtain ⟨g1, _⟩ := Bill.ok_iff.1 hb
    refine .inr ⟨⟨g1.1, g1.2.1, g1.2.2.1⟩, ?_⟩
    have o0 : one (withFirst t 0) b = if t.place ≠ b.place then (0, 0) else if 1000000000 < oneV (withFirst t 0) b then (0, 3) else (oneV (withFirst t 0) b, 0) := by
      unfold one
      rw [if_neg h]
      rfl
    have ok : one (withFirst t k) b = if t.place ≠ b.place then (0, 0) else if 1000000000 < oneV (withFirst t k) b then (0, 3) else (oneV (withFirst t k) b, 0) := by
      unfold one
      rw [hok, if_neg h]
      rfl
    by_cases hn : b.til - b.frm ≤ k
    · refine .inl ⟨hn, ?_⟩
      have hf : firstN (withFirst t k) b = firstN (withFirst t 0) b := by
        rw [firstN_zero, firstN_k t b h1]
        omega
      have hv : oneV (withFirst t k) b = oneV (withFirst t 0) b := by
        unfold oneV exN
        rw [hf]
        rfl
      rw [hv] at ok
      refine ⟨(one (withFirst t 0) b).1, (one (withFirst t 0) b).2, rfl, ok.trans o0.symm, ?_⟩
      rw [o0]
      split
      · exact .inl rfl
      · split
        · exact .inr rfl
        · exact .inl rfl
    · refine .inr ⟨by omega, ?_⟩
      by_cases hp : t.place ≠ b.place
      · rw [if_pos hp] at o0 ok
        exact .inr ⟨0, 0, o0, ok, Int.le_refl _⟩
      · rw [if_neg hp] at o0 ok
        have hx : oneV (withFirst t k) b ≤ oneV (withFirst t 0) b :=
          rnd_mono (exB ht hb).x0 (show t.round = 1 ∨ t.round = 2 ∨ t.round = 3 by have : 1 ≤ t.round ∧ t.round ≤ 3 := (Tax.ok_iff.1 ht).2.2.2.2.2.2; omega) (exN_mono t b h1 ht hb)
        by_cases h3 : 1000000000 < oneV (withFirst t 0) b
        · rw [if_pos h3] at o0
          exact .inl ⟨_, _, o0, rfl⟩
        · rw [if_neg h3] at o0
          rw [if_neg (by omega)] at ok
          exact .inr ⟨_, _, o0, ok, hx⟩

theorem first_walk (t : Tax) (b : Bill) (w : World) (u k m e m' e' : Int) (u0 : 0 ≤ u) (u1 : u ≤ 255) (hk : 1 + u % 60 = k) (HD : RowKit.Hid (e ≠ 1 → 0 ≤ b.frm ∧ b.frm < b.til ∧ b.til ≤ 366))
    (h0 : ∀ w, Calls Try.prog 18 #[(withFirst t 0).v, b.v] w fun x w' => x = .returned (.tuple #[.int .i64 m, .int .i64 e]) ∧ Below w.heap.size w w') (h1 : ∀ w, Calls Try.prog 18 #[(withFirst t k).v, b.v] w fun x w' => x = .returned (.tuple #[.int .i64 m', .int .i64 e']) ∧ Below w.heap.size w w') 
    (HA : RowKit.Hid (e = 1 → e' = 1)) (HB : RowKit.Hid (e ≠ 1 → b.til - b.frm ≤ k → m = m' ∧ e = e')) (HC : RowKit.Hid (e = 0 → ¬ b.til - b.frm ≤ k → e' = 0 ∧ m' ≤ m)) :
    Calls Try.prog 7 #[t.v, b.v, .int .u8 u] w fun e w' => e = .returned (.bool true) ∧ Below w.heap.size w w' := by
  have H0 := Lib.hid h0
  have H1 := Lib.hid h1
  clear h0 h1
  go_enter Try.func7, Try.ntmps7
  go_wp2_with (first
    | (go_at_call 15; refine (head29_any _).mono ?_; rintro e w1 ⟨rfl, hb1⟩; have hz1 := hb1.size; (try simp only [World.size_alloc, World.size_setCell, World.size_drew, size_drewN', size_grow, size_redrawn] at hz1); obtain ⟨hc1, hf1⟩ := bcellB (B := w.heap.size + 1 + 1) hb1 (by first | omega | (simp only [World.size_alloc, World.size_setCell, World.size_drew, size_drewN', size_grow, size_redrawn]; omega)); have la11 : w.heap.size + 1 < w1.heap.size := (by omega); have lb11 : w.heap.size + 1 < w1.heap.size + 1 := (by omega); have lc11 : w.heap.size + 1 < w1.heap.size + 1 + 1 := (by omega); have ld11 : w.heap.size + 1 < w1.heap.size + 1 + 1 + 1 := (by omega); have le11 : w.heap.size + 1 < w1.heap.size + 1 + 1 + 1 + 1 := (by omega); have la10 : w.heap.size < w1.heap.size := (by omega); have lb10 : w.heap.size < w1.heap.size + 1 := (by omega); have lc10 : w.heap.size < w1.heap.size + 1 + 1 := (by omega); have ld10 : w.heap.size < w1.heap.size + 1 + 1 + 1 := (by omega); have le10 : w.heap.size < w1.heap.size + 1 + 1 + 1 + 1 := (by omega)))
  have c1 : ∀ o, w1.cell? ⟨w.heap.size, o, none⟩ = t.cs.toArray[o]? := box_below hb1 (by simp; omega) (box_old (box_new w _ _) (by simp) _)
  have c2 : ∀ o, w1.cell? ⟨w.heap.size + 1, o, none⟩ = b.cs.toArray[o]? := box_below hb1 (by simp) (by have := box_new (w.alloc (.cells t.cs.toArray 35)) b.cs.toArray 26; rw [World.size_alloc] at this; exact this)
  have hb0 : Below w.heap.size w w1 := by
    repeat' (first
      | (with_reducible exact Below.refl _ _)
      | (with_reducible assumption)
      | (with_reducible refine below_drewN ?_ _)
      | (with_reducible refine Below.drew ?_)
      | (with_reducible refine below_regrown_up _ _ ?_ ?_)
      | (with_reducible refine Below.alloc ?_ ?_ _)
      | (with_reducible refine Below.setCell ?_ ?_ _)
      | (with_reducible refine below_up ?_ ?_ (by assumption))
      | (with_reducible exact Nat.le_refl _)
      | omega
      | (simp; done)
      | (simp; omega))
  have C1 := Lib.hid c1
  have C2 := Lib.hid c2
  clear c1 c2
  go_cut [8, 9] (fun p q W => ∃ b8 b9, p = .pointer (some ⟨b8, 0, none⟩) ∧ q = .pointer (some ⟨b9, 0, none⟩) ∧ Two w1 W b8 b9 t.cs.toArray t.cs.toArray)
  case first =>
    rename_i J K2 hJ hK
    go_region
    all_goals (refine hK _ _ ?_; go_meet; refine ⟨_, _, rfl, rfl, ?_⟩)
    all_goals first | exact two_pq _ _ _ _ _ | exact two_qp _ _ _ _ _
  case rest =>
    obtain ⟨b8, b9, rfl, rfl, hT⟩ := hcut
    have d1 := box_below hT.below (by omega) C1.out
    have d2 := box_below hT.below (by omega) C2.out
    have p1 := hT.p1
    have q1 := hT.q1
    have p2 := hT.p2
    have q2 := hT.q2
    have hne := hT.ne
    have hsz := hT.size
    have fp := hT.fp
    have fq := hT.fq
    have hbw := hT.below
    have cp5 : wc.cell? ⟨b8, 5, none⟩ = some (.int .i64 t.first) := hT.cp 5
    have cq5 : wc.cell? ⟨b9, 5, none⟩ = some (.int .i64 t.first) := hT.cq 5
    go_upto_region 5 with (fail)
    refine name_world (fun w2 hw2 => ?_)
    have hT2 : Two w1 w2 b8 b9 (withFirst t 0).cs.toArray (withFirst t k).cs.toArray := by
      rw [hw2]
      exact (hT.setP (i := 5) (by simp [Tax.cs]) _).setQ (i := 5) (by simp [Tax.cs]) _
    have HW2 := Lib.hid hw2
    clear hw2 cp5 cq5 d1 d2 fp fq hbw hsz
    have d1 : ∀ o, w2.cell? ⟨w.heap.size, o, none⟩ = (#[.int .i64 t.id, .int .i64 t.place, .int .i64 t.night, .int .i64 t.n, .int .i64 t.d, .int .i64 t.first, .int .i64 t.round] : Array Value)[o]? := box_below hT2.below (by omega) C1.out
    have d2 : ∀ o, w2.cell? ⟨w.heap.size + 1, o, none⟩ = (#[.int .i64 b.stay, .int .i64 b.channel, .int .i64 b.place, .int .i64 b.kind, .int .i64 b.frm, .int .i64 b.til, .int .i64 b.persons, .int .i64 b.price, .int .i64 b.keep] : Array Value)[o]? := box_below hT2.below (by omega) C2.out
    have d3 : ∀ o, w2.cell? ⟨b8, o, none⟩ = (#[.int .i64 t.id, .int .i64 t.place, .int .i64 t.night, .int .i64 t.n, .int .i64 t.d, .int .i64 0, .int .i64 t.round] : Array Value)[o]? := hT2.cp
    have d4 : ∀ o, w2.cell? ⟨b9, o, none⟩ = (#[.int .i64 t.id, .int .i64 t.place, .int .i64 t.night, .int .i64 t.n, .int .i64 t.d, .int .i64 k, .int .i64 t.round] : Array Value)[o]? := hT2.cq
    have hbw := hT2.below
    have hsz := hT2.size
    have x1 : w.heap.size < w2.heap.size := by omega
    have x2 : w.heap.size + 1 < w2.heap.size := by omega
    have x3 : b8 < w2.heap.size := by omega
    have x4 : b9 < w2.heap.size := by omega
    go_wp2_with fail
    refine (H0.out _).mono ?_
    rintro e w3 ⟨rfl, hb3⟩; have hz3 := hb3.size; (try simp only [World.size_alloc, World.size_setCell, World.size_drew, size_drewN', size_grow, size_redrawn] at hz3); obtain ⟨hc3, hf3⟩ := bcellB (B := w2.heap.size) hb3 (by first | omega | (simp only [World.size_alloc, World.size_setCell, World.size_drew, size_drewN', size_grow, size_redrawn]; omega))
    go_wp2_with fail
    refine (H1.out _).mono ?_
    rintro e w4 ⟨rfl, hb4⟩; have hz4 := hb4.size; (try simp only [World.size_alloc, World.size_setCell, World.size_drew, size_drewN', size_grow, size_redrawn] at hz4); obtain ⟨hc4, hf4⟩ := bcellB (B := w2.heap.size) hb4 (by first | omega | (simp only [World.size_alloc, World.size_setCell, World.size_drew, size_drewN', size_grow, size_redrawn]; omega))
    by_cases he : e = 1
    · have he' := HA.out he
      subst he he'
      go_wp2_with fail
      go_ret
      refine ⟨rfl, ?_⟩
      repeat' (first
        | (with_reducible exact Below.refl _ _)
        | (with_reducible assumption)
        | (with_reducible refine below_drewN ?_ _)
        | (with_reducible refine Below.drew ?_)
        | (with_reducible refine below_regrown_up _ _ ?_ ?_)
        | (with_reducible refine Below.alloc ?_ ?_ _)
        | (with_reducible refine Below.setCell ?_ ?_ _)
        | (with_reducible refine below_up ?_ ?_ (by assumption))
        | (with_reducible exact Nat.le_refl _)
        | omega
        | (simp; done)
        | (simp; omega))
    · have hd := HD.out he
      obtain ⟨g0, g1, g2⟩ := hd
      have hbe : (e == 1) = false := by simpa using he
      have HE := Lib.hid he
      clear he
      go_wp2_with fail
      all_goals
        go_ret
        refine ⟨ret_bool ?_, ?_⟩
        · have ha := HA.out
          have hb := HB.out
          have hc := HC.out
          have he := HE.out
          clear HA HB HC H0 H1 HW2 C1 C2 hT hT2 d1 d2 d3 d4 hk
          simp only [beq_iff_eq, bne_iff_ne, ne_eq, beq_eq_false_iff_ne, bne_eq_false_iff_eq, decide_eq_true_eq, decide_eq_false_iff_not] at * <;> omega
        · repeat' (first
            | (with_reducible exact Below.refl _ _)
            | (with_reducible assumption)
            | (with_reducible refine below_drewN ?_ _)
            | (with_reducible refine Below.drew ?_)
            | (with_reducible refine below_regrown_up _ _ ?_ ?_)
            | (with_reducible refine Below.alloc ?_ ?_ _)
            | (with_reducible refine Below.setCell ?_ ?_ _)
            | (with_reducible refine below_up ?_ ?_ (by assumption))
            | (with_reducible exact Nat.le_refl _)
            | omega
            | (simp; done)
            | (simp; omega))
theorem law_first (t : Tax) (b : Bill) (u : Int) (w : World) (u0 : 0 ≤ u) (u1 : u ≤ 255) : Calls Try.prog 7 #[t.v, b.v, .int .u8 u] w fun e w' => e = .returned (.bool true) ∧ Below w.heap.size w w' := by
  obtain ⟨k, hk⟩ : ∃ k, 1 + u % 60 = k := ⟨_, rfl⟩
  rcases first_cases t b (k := k) (by omega) (by omega) with ⟨h1, h2⟩ | ⟨⟨g1, g2, g3⟩, ⟨hn, m, e, h1, h2, he⟩ | ⟨hn, ⟨m, e, h1, h2⟩ | ⟨m, m', h1, h2, hm⟩⟩⟩
  · exact first_walk t b w u k _ _ _ _ u0 u1 hk (Lib.hid (by simp)) (fun w => one_any' h1 w) (fun w => one_any' h2 w) (Lib.hid (by simp)) (Lib.hid (by simp)) (Lib.hid (by simp))
  · exact first_walk t b w u k _ _ _ _ u0 u1 hk (Lib.hid (fun _ => ⟨g1, g2, g3⟩)) (fun w => one_any' h1 w) (fun w => one_any' h2 w) (Lib.hid (by omega)) (Lib.hid (fun _ _ => ⟨rfl, rfl⟩)) (Lib.hid (by omega))
  · exact first_walk t b w u k _ _ _ _ u0 u1 hk (Lib.hid (fun _ => ⟨g1, g2, g3⟩)) (fun w => one_any' h1 w) (fun w => one_any' h2 w) (Lib.hid (by omega)) (Lib.hid (by omega)) (Lib.hid (by omega))
  · exact first_walk t b w u k _ _ _ _ u0 u1 hk (Lib.hid (fun _ => ⟨g1, g2, g3⟩)) (fun w => one_any' h1 w) (fun w => one_any' h2 w) (Lib.hid (by omega)) (Lib.hid (by omega)) (Lib.hid (fun _ _ => ⟨rfl, hm⟩))
end Go.Proofs.Ytdbdjhgcmcbiaaa
