/-
  The law 'TaxMore': the walk.
-/
import Derived.Test.YtdbdjhgcmcbiaaaTaxFirst
namespace Go.Proofs.Ytdbdjhgcmcbiaaa
set_option linter.unusedSimpArgs false
set_option linter.unusedVariables false
open Go.RowKit Go.Maps
open Go.Sort (grow size_grow)

set_option maxHeartbeats 4000000
set_option maxRecDepth 100000

theorem rnd_scale (n d way : Int) {k : Int} (hk : 0 < k) : rnd (n * k) (d * k) way = rnd n d way := by
  have e1 : n * k / (d * k) = n / d := Int.mul_ediv_mul_of_pos_left n d hk
  have e2 : n * k % (d * k) = n % d * k := by rw [Int.mul_comm n, Int.mul_comm d, Int.mul_emod_mul_of_pos n d hk, Int.mul_comm]
  unfold rnd
  rw [e1, e2]
  have h1 : (0 < n % d * k) ↔ (0 < n % d) := ⟨fun h => Int.pos_of_mul_pos_left h hk, fun h => Int.mul_pos h hk⟩
  have h2 : 2 * (n % d * k) = (2 * (n % d)) * k := by rw [Int.mul_assoc]
  have h3 : (d * k < 2 * (n % d * k)) ↔ d < 2 * (n % d) := by rw [h2]; exact Int.mul_lt_mul_right hk
  have h4 : (2 * (n % d * k) = d * k) ↔ 2 * (n % d) = d := by rw [h2]; exact ⟨fun h => Int.eq_of_mul_eq_mul_right (by omega) h, fun h => by rw [h]⟩
  simp only [h1, h3, h4]
theorem one_ok {t : Tax} {b : Bill} {m : Int} (h : one t b = (m, 0)) : t.ok = true ∧ b.ok = true ∧ (t.place ≠ b.place ∧ m = 0 ∨ t.place = b.place ∧ m = oneV t b) := by
  rcases one_cases t b with h1 | ⟨ht, hb, hp, h1⟩ | h1 | ⟨ht, hb, hp, h1, _⟩
  · rw [h] at h1; simp at h1
  · rw [h] at h1; simp at h1; exact ⟨ht, hb, .inl ⟨hp, h1⟩⟩
  · rw [h] at h1; simp at h1
  · rw [h] at h1; simp at h1; exact ⟨ht, hb, .inr ⟨hp, h1⟩⟩
theorem oneV_le {t t' : Tax} {b b' : Bill} {m p : Int} (h : one t b = (m, 0)) (h' : one t' b' = (p, 0)) (hp : t'.place = t.place) (hp' : b'.place = b.place) (hv : t.ok = true → b.ok = true → t'.ok = true → b'.ok = true → oneV t b ≤ oneV t' b') : m ≤ p := by
  obtain ⟨a1, a2, a3⟩ := one_ok h
  obtain ⟨b1, b2, b3⟩ := one_ok h'
  have := hv a1 a2 b1 b2
  rw [hp, hp'] at b3
  rcases a3 with ⟨c1, rfl⟩ | ⟨c1, rfl⟩
  · rcases b3 with ⟨_, rfl⟩ | ⟨c2, _⟩
    · omega
    · exact absurd c2 c1
  · rcases b3 with ⟨c2, _⟩ | ⟨_, rfl⟩
    · exact absurd c1 c2
    · exact this
def Bill.morePersons (b : Bill) : Bill := ⟨b.stay, b.channel, b.place, b.kind, b.frm, b.til, b.persons + 1, b.price, b.keep⟩
def Bill.morePrice (b : Bill) (u : Int) : Bill := ⟨b.stay, b.channel, b.place, b.kind, b.frm, b.til, b.persons, b.price + u, b.keep⟩
def Tax.moreNight (t : Tax) (u : Int) : Tax := ⟨t.id, t.place, t.night + u, t.n, t.d, t.first, t.round⟩
def Tax.allPart (t : Tax) : Tax := ⟨t.id, t.place, t.night, 1, 1, t.first, t.round⟩
theorem round_of {t : Tax} (h : t.ok = true) : t.round = 1 ∨ t.round = 2 ∨ t.round = 3 := by have := (Tax.ok_iff.1 h).2.2.2.2.2.2; omega
theorem more_persons {t : Tax} {b : Bill} {m p : Int} (h : one t b = (m, 0)) (h' : one t b.morePersons = (p, 0)) : m ≤ p := by
  refine oneV_le h h' rfl rfl (fun ht hb ht' hb' => ?_)
  obtain ⟨n1, n2, f0, f1, d0, d1, x0, x1, _⟩ := exB ht hb
  have h2 := (Tax.ok_iff.1 ht).2.2.2.2.1
  have x0' : (1 : Int) ≤ (b.til - b.frm) * t.d := by simpa [exD] using x0
  refine rnd_mono x0 (round_of ht) (Int.add_le_add (Int.mul_le_mul_of_nonneg_right (Int.mul_le_mul_of_nonneg_left (show b.persons ≤ b.persons + 1 by omega) (Int.mul_nonneg h2.1 f0)) (show (0 : Int) ≤ (b.til - b.frm) * t.d by omega)) (Int.le_refl _))
theorem more_price {t : Tax} {b : Bill} {m p u : Int} (hu : 0 ≤ u) (h : one t b = (m, 0)) (h' : one t (b.morePrice u) = (p, 0)) : m ≤ p := by
  refine oneV_le h h' rfl rfl (fun ht hb ht' hb' => ?_)
  obtain ⟨n1, n2, f0, f1, d0, d1, x0, x1, _⟩ := exB ht hb
  have h2 := (Tax.ok_iff.1 ht).2.1
  refine rnd_mono x0 (round_of ht) (Int.add_le_add (Int.le_refl _) (Int.mul_le_mul_of_nonneg_right (Int.mul_le_mul_of_nonneg_left (show b.price ≤ b.price + u by omega) h2.1) f0))
theorem more_night {t : Tax} {b : Bill} {m p u : Int} (hu : 0 ≤ u) (h : one t b = (m, 0)) (h' : one (t.moreNight u) b = (p, 0)) : m ≤ p := by
  refine oneV_le h h' rfl rfl (fun ht hb ht' hb' => ?_)
  obtain ⟨n1, n2, f0, f1, d0, d1, x0, x1, _⟩ := exB ht hb
  obtain ⟨_, _, g3, _⟩ := Bill.ok_iff.1 hb
  have x0' : (1 : Int) ≤ (b.til - b.frm) * t.d := by simpa [exD] using x0
  refine rnd_mono x0 (round_of ht) (Int.add_le_add (Int.mul_le_mul_of_nonneg_right (Int.mul_le_mul_of_nonneg_right (Int.mul_le_mul_of_nonneg_right (show t.night ≤ t.night + u by omega) f0) (by omega)) (show (0 : Int) ≤ (b.til - b.frm) * t.d by omega)) (Int.le_refl _))
theorem more_all {t : Tax} {b : Bill} {m p : Int} (h : one t b = (m, 0)) (h' : one t.allPart b = (p, 0)) : m ≤ p := by
  refine oneV_le h h' rfl rfl (fun ht hb ht' hb' => ?_)
  obtain ⟨n1, n2, f0, f1, d0, d1, x0, x1, _⟩ := exB ht hb
  obtain ⟨r1, r2, _⟩ := Tax.ok_iff.1 ht
  obtain ⟨_, _, _, _, _, _, g7, _⟩ := Bill.ok_iff.1 hb
  obtain ⟨q1, _⟩ := ratOk_iff.1 r1
  have e1 : oneV t.allPart b = rnd (exN t.allPart b * t.d) (exD t b) t.round := by
    have : exD t b = exD t.allPart b * t.d := by simp [exD, Tax.allPart]
    rw [this, rnd_scale _ _ _ (by omega)]
    rfl
  rw [e1]
  refine rnd_mono x0 (round_of ht) ?_
  show t.night * firstN t b * b.persons * ((b.til - b.frm) * t.d) + t.n * b.price * firstN t b ≤ (t.night * firstN t b * b.persons * ((b.til - b.frm) * 1) + 1 * b.price * firstN t b) * t.d
  have e2 : (t.night * firstN t b * b.persons * ((b.til - b.frm) * 1) + 1 * b.price * firstN t b) * t.d = t.night * firstN t b * b.persons * ((b.til - b.frm) * t.d) + t.d * b.price * firstN t b := by
    rw [Int.add_mul, Int.mul_one, Int.one_mul, Int.mul_assoc _ (b.til - b.frm) t.d, Int.mul_comm (b.price * firstN t b) t.d, Int.mul_assoc t.d]
  rw [e2]
  exact Int.add_le_add (Int.le_refl _) (Int.mul_le_mul_of_nonneg_right (Int.mul_le_mul_of_nonneg_right r2.2 g7.1) f0)
theorem more_walk (t : Tax) (b : Bill) (w : World) (u m p f q g r h s i : Int) (u0 : 0 ≤ u) (u1 : u ≤ 65535) (hok : t.ok = true) (hbk : b.ok = true)
    (h0 : ∀ w, Calls Try.prog 18 #[t.v, b.v] w fun x w' => x = .returned (.tuple #[.int .i64 m, .int .i64 0]) ∧ Below w.heap.size w w') 
    (h1 : ∀ w, Calls Try.prog 18 #[t.v, b.morePersons.v] w fun x w' => x = .returned (.tuple #[.int .i64 p, .int .i64 f]) ∧ Below w.heap.size w w')
    (h2 : ∀ w, Calls Try.prog 18 #[t.v, (b.morePrice u).v] w fun x w' => x = .returned (.tuple #[.int .i64 q, .int .i64 g]) ∧ Below w.heap.size w w')
    (h3 : ∀ w, Calls Try.prog 18 #[(t.moreNight u).v, b.v] w fun x w' => x = .returned (.tuple #[.int .i64 r, .int .i64 h]) ∧ Below w.heap.size w w')
    (h4 : ∀ w, Calls Try.prog 18 #[t.allPart.v, b.v] w fun x w' => x = .returned (.tuple #[.int .i64 s, .int .i64 i]) ∧ Below w.heap.size w w')
    (HA : RowKit.Hid (f = 0 → m ≤ p)) (HB : RowKit.Hid (g = 0 → m ≤ q)) (HC : RowKit.Hid (h = 0 → m ≤ r)) (HD : RowKit.Hid (i = 0 → m ≤ s)) :
    Calls Try.prog 6 #[t.v, b.v, .int .u16 u] w fun e w' => e = .returned (.bool true) ∧ Below w.heap.size w w' := by
  have H0 := Lib.hid h0
  have H1 := Lib.hid h1
  have H2 := Lib.hid h2
  have H3 := Lib.hid h3
  have H4 := Lib.hid h4
  have k1 := (Tax.ok_iff.1 hok).2.2.2.2.1
  have k2 := (Bill.ok_iff.1 hbk).2.2.1
  have k3 := (Bill.ok_iff.1 hbk).2.2.2.2.2.2.1
  clear h0 h1 h2 h3 h4 hok hbk
  go_enter Try.func6, Try.ntmps6
  go_wp2_with (first
    | (go_at_call 15; refine (head29_any _).mono ?_; rintro e w1 ⟨rfl, hb1⟩; have hz1 := hb1.size; (try simp only [World.size_alloc, World.size_setCell, World.size_drew, size_drewN', size_grow, size_redrawn] at hz1); obtain ⟨hc1, hf1⟩ := bcellB (B := w.heap.size + 1 + 1) hb1 (by first | omega | (simp only [World.size_alloc, World.size_setCell, World.size_drew, size_drewN', size_grow, size_redrawn]; omega)); have la11 : w.heap.size + 1 < w1.heap.size := (by omega); have lb11 : w.heap.size + 1 < w1.heap.size + 1 := (by omega); have lc11 : w.heap.size + 1 < w1.heap.size + 1 + 1 := (by omega); have ld11 : w.heap.size + 1 < w1.heap.size + 1 + 1 + 1 := (by omega); have le11 : w.heap.size + 1 < w1.heap.size + 1 + 1 + 1 + 1 := (by omega); have la10 : w.heap.size < w1.heap.size := (by omega); have lb10 : w.heap.size < w1.heap.size + 1 := (by omega); have lc10 : w.heap.size < w1.heap.size + 1 + 1 := (by omega); have ld10 : w.heap.size < w1.heap.size + 1 + 1 + 1 := (by omega); have le10 : w.heap.size < w1.heap.size + 1 + 1 + 1 + 1 := (by omega))
    | (go_at_call 18; refine (H0.out _).mono ?_; rintro e w2 ⟨rfl, hb2⟩; have hz2 := hb2.size; (try simp only [World.size_alloc, World.size_setCell, World.size_drew, size_drewN', size_grow, size_redrawn] at hz2); obtain ⟨hc2, hf2⟩ := bcellB (B := w.heap.size + 1 + 1) hb2 (by first | omega | (simp only [World.size_alloc, World.size_setCell, World.size_drew, size_drewN', size_grow, size_redrawn]; omega)); have la21 : w.heap.size + 1 < w2.heap.size := (by omega); have lb21 : w.heap.size + 1 < w2.heap.size + 1 := (by omega); have lc21 : w.heap.size + 1 < w2.heap.size + 1 + 1 := (by omega); have ld21 : w.heap.size + 1 < w2.heap.size + 1 + 1 + 1 := (by omega); have le21 : w.heap.size + 1 < w2.heap.size + 1 + 1 + 1 + 1 := (by omega); have la20 : w.heap.size < w2.heap.size := (by omega); have lb20 : w.heap.size < w2.heap.size + 1 := (by omega); have lc20 : w.heap.size < w2.heap.size + 1 + 1 := (by omega); have ld20 : w.heap.size < w2.heap.size + 1 + 1 + 1 := (by omega); have le20 : w.heap.size < w2.heap.size + 1 + 1 + 1 + 1 := (by omega)))
  have c1 : ∀ o, w1.cell? ⟨w.heap.size, o, none⟩ = t.cs.toArray[o]? := box_below hb1 (by simp; omega) (box_old (box_new w _ _) (by simp) _)
  have c2 : ∀ o, w1.cell? ⟨w.heap.size + 1, o, none⟩ = b.cs.toArray[o]? := box_below hb1 (by simp) (by have := box_new (w.alloc (.cells t.cs.toArray 35)) b.cs.toArray 26; rw [World.size_alloc] at this; exact this)
  have hb0 : Below w.heap.size w w1 := by
    repeat' (first
      | (with_reducible exact Below.refl _ _)
      | (with_reducible assumption)
      | (with_reducible refine below_drewN ?_ _)
      | (with_reducible refine Below.drew ?_)
      | (with_reducible refine below_regrown_up _ _ ?_ ?_)
      | (with_reducible refine Below.alloc ?_ ?_ _)
      | (with_reducible refine Below.setCell ?_ ?_ _)
      | (with_reducible refine below_up ?_ ?_ (by assumption))
      | (with_reducible exact Nat.le_refl _)
      | omega
      | (simp; done)
      | (simp; omega))
  have C1 := Lib.hid c1
  have C2 := Lib.hid c2
  clear c1 c2
  go_cut [10, 11] (fun p q W => ∃ b10 b11, p = .pointer (some ⟨b10, 0, none⟩) ∧ q = .pointer (some ⟨b11, 0, none⟩) ∧ Two w2 W b10 b11 b.cs.toArray b.cs.toArray)
  case first =>
    rename_i J K2 hJ hK
    go_region
    all_goals (refine hK _ _ ?_; go_meet; refine ⟨_, _, rfl, rfl, ?_⟩)
    all_goals first | exact two_pq _ _ _ _ _ | exact two_qp _ _ _ _ _
  case rest =>
    obtain ⟨b10, b11, rfl, rfl, hT⟩ := hcut
    have hbw := hT.below
    have hsz := hbw.size
    have p1 := hT.p1
    have q1 := hT.q1
    have p2 := hT.p2
    have q2 := hT.q2
    have hne := hT.ne
    have fp := hT.fp
    have fq := hT.fq
    have cp6 : wc.cell? ⟨b10, 6, none⟩ = some (.int .i64 b.persons) := hT.cp 6
    have cq7 : wc.cell? ⟨b11, 7, none⟩ = some (.int .i64 b.price) := hT.cq 7
    go_upto_region 8 with (fail)
    refine name_world (fun w3 hw3 => ?_)
    have hT2 : Two w2 w3 b10 b11 b.morePersons.cs.toArray (b.morePrice u).cs.toArray := by
      rw [hw3]
      exact (hT.setP (i := 6) (by simp [Bill.cs]) _).setQ (i := 7) (by simp [Bill.cs]) _
    have HW3 := Lib.hid hw3
    have HT := Lib.hid hT
    clear hw3 hT cp6 cq7 fp fq hbw hsz
    have hz3 := hT2.size
    have hb3 : Below w1.heap.size w1 w3 := below_up hb2 (by omega) hT2.below
    have d1 : ∀ o, w3.cell? ⟨w.heap.size, o, none⟩ = (#[.int .i64 t.id, .int .i64 t.place, .int .i64 t.night, .int .i64 t.n, .int .i64 t.d, .int .i64 t.first, .int .i64 t.round] : Array Value)[o]? := box_below hb3 (by omega) C1.out
    have lt1 : w.heap.size < w3.heap.size := by omega
    have HZ3 := Lib.hid hz3
    clear hz3
    go_cut [12, 13] (fun p q W => ∃ b12 b13, p = .pointer (some ⟨b12, 0, none⟩) ∧ q = .pointer (some ⟨b13, 0, none⟩) ∧ Two w3 W b12 b13 t.cs.toArray t.cs.toArray)
    case first =>
      rename_i J K2 hJ hK
      go_region
      all_goals (refine hK _ _ ?_; go_meet; refine ⟨_, _, rfl, rfl, ?_⟩)
      all_goals first | exact two_pq _ _ _ _ _ | exact two_qp _ _ _ _ _
    case rest =>
      obtain ⟨b12, b13, rfl, rfl, hU⟩ := hcut
      have hbw := hU.below
      have hsz := hbw.size
      have r1 := hU.p1
      have s1 := hU.q1
      have r2 := hU.p2
      have s2 := hU.q2
      have hne2 := hU.ne
      have fp := hU.fp
      have fq := hU.fq
      have cp2 : wc.cell? ⟨b12, 2, none⟩ = some (.int .i64 t.night) := hU.cp 2
      have cq3 : wc.cell? ⟨b13, 3, none⟩ = some (.int .i64 t.n) := hU.cq 3
      have cq4 : wc.cell? ⟨b13, 4, none⟩ = some (.int .i64 t.d) := hU.cq 4
      go_upto_region 11 with (fail)
      refine name_world (fun w4 hw4 => ?_)
      have hU2 : Two w3 w4 b12 b13 (t.moreNight u).cs.toArray t.allPart.cs.toArray := by
        rw [hw4]
        exact ((hU.setP (i := 2) (by simp [Tax.cs]) _).setQ (i := 3) (by simp [Tax.cs]) _).setQ (i := 4) (by simp [Tax.cs]) _
      have HW4 := Lib.hid hw4
      clear hw4 cp2 cq3 cq4 fp fq hbw hsz d1
      have hz4 := hU2.size
      have hz3 := HZ3.out
      have hb4 : Below w1.heap.size w1 w4 := below_up hb3 (by omega) hU2.below
      have d1 : ∀ o, w4.cell? ⟨w.heap.size, o, none⟩ = (#[.int .i64 t.id, .int .i64 t.place, .int .i64 t.night, .int .i64 t.n, .int .i64 t.d, .int .i64 t.first, .int .i64 t.round] : Array Value)[o]? := box_below hb4 (by omega) C1.out
      have d2 : ∀ o, w4.cell? ⟨w.heap.size + 1, o, none⟩ = (#[.int .i64 b.stay, .int .i64 b.channel, .int .i64 b.place, .int .i64 b.kind, .int .i64 b.frm, .int .i64 b.til, .int .i64 b.persons, .int .i64 b.price, .int .i64 b.keep] : Array Value)[o]? := box_below hb4 (by omega) C2.out
      have d3 : ∀ o, w4.cell? ⟨b10, o, none⟩ = (#[.int .i64 b.stay, .int .i64 b.channel, .int .i64 b.place, .int .i64 b.kind, .int .i64 b.frm, .int .i64 b.til, .int .i64 (b.persons + 1), .int .i64 b.price, .int .i64 b.keep] : Array Value)[o]? := box_below hU2.below (by omega) hT2.cp
      have d4 : ∀ o, w4.cell? ⟨b11, o, none⟩ = (#[.int .i64 b.stay, .int .i64 b.channel, .int .i64 b.place, .int .i64 b.kind, .int .i64 b.frm, .int .i64 b.til, .int .i64 b.persons, .int .i64 (b.price + u), .int .i64 b.keep] : Array Value)[o]? := box_below hU2.below (by omega) hT2.cq
      have d5 : ∀ o, w4.cell? ⟨b12, o, none⟩ = (#[.int .i64 t.id, .int .i64 t.place, .int .i64 (t.night + u), .int .i64 t.n, .int .i64 t.d, .int .i64 t.first, .int .i64 t.round] : Array Value)[o]? := hU2.cp
      have d6 : ∀ o, w4.cell? ⟨b13, o, none⟩ = (#[.int .i64 t.id, .int .i64 t.place, .int .i64 t.night, .int .i64 1, .int .i64 1, .int .i64 t.first, .int .i64 t.round] : Array Value)[o]? := hU2.cq
      have x1 : w.heap.size < w4.heap.size := by omega
      have x2 : w.heap.size + 1 < w4.heap.size := by omega
      have x3 : b10 < w4.heap.size := by omega
      have x4 : b11 < w4.heap.size := by omega
      have x5 : b12 < w4.heap.size := by omega
      have x6 : b13 < w4.heap.size := by omega
      have hbe : Below w.heap.size w w4 := below_up hb0 (by omega) hb4
      have HU2 := Lib.hid hU2
      clear hz3 hz4 hU2 hU hT2 hb3 hb4 hb1 hb2 hne hne2
      go_wp2_with fail
      refine (H1.out _).mono ?_
      rintro e w5 ⟨rfl, hb5⟩; have hz5 := hb5.size; (try simp only [World.size_alloc, World.size_setCell, World.size_drew, size_drewN', size_grow, size_redrawn] at hz5); obtain ⟨hc5, hf5⟩ := bcellB (B := w4.heap.size) hb5 (by first | omega | (simp only [World.size_alloc, World.size_setCell, World.size_drew, size_drewN', size_grow, size_redrawn]; omega))
      go_wp2_with fail
      refine (H2.out _).mono ?_
      rintro e w6 ⟨rfl, hb6⟩; have hz6 := hb6.size; (try simp only [World.size_alloc, World.size_setCell, World.size_drew, size_drewN', size_grow, size_redrawn] at hz6); obtain ⟨hc6, hf6⟩ := bcellB (B := w4.heap.size) hb6 (by first | omega | (simp only [World.size_alloc, World.size_setCell, World.size_drew, size_drewN', size_grow, size_redrawn]; omega))
      go_wp2_with fail
      refine (H3.out _).mono ?_
      rintro e w7 ⟨rfl, hb7⟩; have hz7 := hb7.size; (try simp only [World.size_alloc, World.size_setCell, World.size_drew, size_drewN', size_grow, size_redrawn] at hz7); obtain ⟨hc7, hf7⟩ := bcellB (B := w4.heap.size) hb7 (by first | omega | (simp only [World.size_alloc, World.size_setCell, World.size_drew, size_drewN', size_grow, size_redrawn]; omega))
      go_wp2_with fail
      refine (H4.out _).mono ?_
      rintro e w8 ⟨rfl, hb8⟩; have hz8 := hb8.size; (try simp only [World.size_alloc, World.size_setCell, World.size_drew, size_drewN', size_grow, size_redrawn] at hz8); obtain ⟨hc8, hf8⟩ := bcellB (B := w4.heap.size) hb8 (by first | omega | (simp only [World.size_alloc, World.size_setCell, World.size_drew, size_drewN', size_grow, size_redrawn]; omega))
      go_wp2_with fail
      all_goals
        go_ret
        refine ⟨ret_bool ?_, ?_⟩
        · have ha := HA.out
          have hb := HB.out
          have hc := HC.out
          have hd := HD.out
          clear HA HB HC HD H0 H1 H2 H3 H4 C1 C2 d1 d2 d3 d4 d5 d6
          (try simp only [beq_iff_eq, bne_iff_ne, ne_eq, beq_eq_false_iff_ne, bne_eq_false_iff_eq, decide_eq_true_eq, decide_eq_false_iff_not] at *) <;> omega
        · repeat' (first
            | (with_reducible exact Below.refl _ _)
            | (with_reducible assumption)
            | (with_reducible refine below_drewN ?_ _)
            | (with_reducible refine Below.drew ?_)
            | (with_reducible refine below_regrown_up _ _ ?_ ?_)
            | (with_reducible refine Below.alloc ?_ ?_ _)
            | (with_reducible refine Below.setCell ?_ ?_ _)
            | (with_reducible refine below_up ?_ ?_ (by assumption))
            | (with_reducible exact Nat.le_refl _)
            | omega
            | (simp; done)
            | (simp; omega))
theorem more_1 (t : Tax) (b : Bill) (w : World) (u m : Int) (h : one t b = (m, 1)) : Calls Try.prog 6 #[t.v, b.v, .int .u16 u] w fun e w' => e = .returned (.bool true) ∧ Below w.heap.size w w' := by
  go_enter Try.func6, Try.ntmps6
  go_wp2_with (first
    | (go_at_call 15; refine (head29_any _).mono ?_; rintro e w1 ⟨rfl, hb1⟩; have hz1 := hb1.size; (try simp only [World.size_alloc, World.size_setCell, World.size_drew, size_drewN', size_grow, size_redrawn] at hz1); obtain ⟨hc1, hf1⟩ := bcellB (B := w.heap.size + 1 + 1) hb1 (by first | omega | (simp only [World.size_alloc, World.size_setCell, World.size_drew, size_drewN', size_grow, size_redrawn]; omega)); have la11 : w.heap.size + 1 < w1.heap.size := (by omega); have lb11 : w.heap.size + 1 < w1.heap.size + 1 := (by omega); have lc11 : w.heap.size + 1 < w1.heap.size + 1 + 1 := (by omega); have ld11 : w.heap.size + 1 < w1.heap.size + 1 + 1 + 1 := (by omega); have le11 : w.heap.size + 1 < w1.heap.size + 1 + 1 + 1 + 1 := (by omega); have la10 : w.heap.size < w1.heap.size := (by omega); have lb10 : w.heap.size < w1.heap.size + 1 := (by omega); have lc10 : w.heap.size < w1.heap.size + 1 + 1 := (by omega); have ld10 : w.heap.size < w1.heap.size + 1 + 1 + 1 := (by omega); have le10 : w.heap.size < w1.heap.size + 1 + 1 + 1 + 1 := (by omega))
    | (go_at_call 18; refine (one_any' h _).mono ?_; rintro e w2 ⟨rfl, hb2⟩; have hz2 := hb2.size; (try simp only [World.size_alloc, World.size_setCell, World.size_drew, size_drewN', size_grow, size_redrawn] at hz2); obtain ⟨hc2, hf2⟩ := bcellB (B := w.heap.size + 1 + 1) hb2 (by first | omega | (simp only [World.size_alloc, World.size_setCell, World.size_drew, size_drewN', size_grow, size_redrawn]; omega))))
  go_ret
  refine ⟨rfl, ?_⟩
  repeat' (first
    | (with_reducible exact Below.refl _ _)
    | (with_reducible assumption)
    | (with_reducible refine below_drewN ?_ _)
    | (with_reducible refine Below.drew ?_)
    | (with_reducible refine below_regrown_up _ _ ?_ ?_)
    | (with_reducible refine Below.alloc ?_ ?_ _)
    | (with_reducible refine Below.setCell ?_ ?_ _)
    | (with_reducible refine below_up ?_ ?_ (by assumption))
    | (with_reducible exact Nat.le_refl _)
    | omega
    | (simp; done)
    | (simp; omega))
theorem more_3 (t : Tax) (b : Bill) (w : World) (u m : Int) (h : one t b = (m, 3)) : Calls Try.prog 6 #[t.v, b.v, .int .u16 u] w fun e w' => e = .returned (.bool true) ∧ Below w.heap.size w w' := by
  go_enter Try.func6, Try.ntmps6
  go_wp2_with (first
    | (go_at_call 15; refine (head29_any _).mono ?_; rintro e w1 ⟨rfl, hb1⟩; have hz1 := hb1.size; (try simp only [World.size_alloc, World.size_setCell, World.size_drew, size_drewN', size_grow, size_redrawn] at hz1); obtain ⟨hc1, hf1⟩ := bcellB (B := w.heap.size + 1 + 1) hb1 (by first | omega | (simp only [World.size_alloc, World.size_setCell, World.size_drew, size_drewN', size_grow, size_redrawn]; omega)); have la11 : w.heap.size + 1 < w1.heap.size := (by omega); have lb11 : w.heap.size + 1 < w1.heap.size + 1 := (by omega); have lc11 : w.heap.size + 1 < w1.heap.size + 1 + 1 := (by omega); have ld11 : w.heap.size + 1 < w1.heap.size + 1 + 1 + 1 := (by omega); have le11 : w.heap.size + 1 < w1.heap.size + 1 + 1 + 1 + 1 := (by omega); have la10 : w.heap.size < w1.heap.size := (by omega); have lb10 : w.heap.size < w1.heap.size + 1 := (by omega); have lc10 : w.heap.size < w1.heap.size + 1 + 1 := (by omega); have ld10 : w.heap.size < w1.heap.size + 1 + 1 + 1 := (by omega); have le10 : w.heap.size < w1.heap.size + 1 + 1 + 1 + 1 := (by omega))
    | (go_at_call 18; refine (one_any' h _).mono ?_; rintro e w2 ⟨rfl, hb2⟩; have hz2 := hb2.size; (try simp only [World.size_alloc, World.size_setCell, World.size_drew, size_drewN', size_grow, size_redrawn] at hz2); obtain ⟨hc2, hf2⟩ := bcellB (B := w.heap.size + 1 + 1) hb2 (by first | omega | (simp only [World.size_alloc, World.size_setCell, World.size_drew, size_drewN', size_grow, size_redrawn]; omega))))
  go_ret
  refine ⟨rfl, ?_⟩
  repeat' (first
    | (with_reducible exact Below.refl _ _)
    | (with_reducible assumption)
    | (with_reducible refine below_drewN ?_ _)
    | (with_reducible refine Below.drew ?_)
    | (with_reducible refine below_regrown_up _ _ ?_ ?_)
    | (with_reducible refine Below.alloc ?_ ?_ _)
    | (with_reducible refine Below.setCell ?_ ?_ _)
    | (with_reducible refine below_up ?_ ?_ (by assumption))
    | (with_reducible exact Nat.le_refl _)
    | omega
    | (simp; done)
    | (simp; omega))
theorem law_more (t : Tax) (b : Bill) (u : Int) (w : World) (u0 : 0 ≤ u) (u1 : u ≤ 65535) : Calls Try.prog 6 #[t.v, b.v, .int .u16 u] w fun e w' => e = .returned (.bool true) ∧ Below w.heap.size w w' := by
  have h0 : ∃ m, one t b = (m, 1) ∨ one t b = (m, 3) ∨ one t b = (m, 0) := by
    rcases one_cases t b with h | ⟨_, _, _, h⟩ | h | ⟨_, _, _, h, _⟩
    · exact ⟨_, .inl h⟩
    · exact ⟨_, .inr (.inr h)⟩
    · exact ⟨_, .inr (.inl h)⟩
    · exact ⟨_, .inr (.inr h)⟩
  obtain ⟨m, h | h | h⟩ := h0
  · exact more_1 t b w u m h
  · exact more_3 t b w u m h
  · obtain ⟨ht, hb, _⟩ := one_ok h
    refine more_walk t b w u m _ _ _ _ _ _ _ _ u0 u1 ht hb (fun w => one_any' h w) (fun w => one_any' (Prod.eta _).symm w) (fun w => one_any' (Prod.eta _).symm w) (fun w => one_any' (Prod.eta _).symm w) (fun w => one_any' (Prod.eta _).symm w)
      (Lib.hid fun he => ?_) (Lib.hid fun he => ?_) (Lib.hid fun he => ?_) (Lib.hid fun he => ?_)
    · exact more_persons h (Prod.ext rfl he)
    · exact more_price u0 h (Prod.ext rfl he)
    · exact more_night u0 h (Prod.ext rfl he)
    · exact more_all h (Prod.ext rfl he)
end Go.Proofs.Ytdbdjhgcmcbiaaa
