/-
  Package rooms: counting.
-/
import Derived.Test.YtphapnooonjnmaaRmW6
namespace Go.Proofs.Ytphapnooonjnmaa
set_option linter.unusedSimpArgs false
set_option linter.unusedVariables false
open Go.RowKit Go.Maps Go.Shelf
open Go.Sort (grow size_grow)

set_option maxHeartbeats 4000000
set_option maxRecDepth 100000
attribute [local go_sem] Oper.semAt_some
theorem count_bad (l : List Room) (A : Option Addr) (c : Nat) (h k n : Int) (w : World) (hs : SlRoom w A l) (hl : l.length ≤ 140737488355328) (hT : Tame l) (hx : (roomsOk l && inB h 1 20 && inB k 1 20 && inB n 0 365) = false) :
    Calls Try.prog 20 #[.slice A l.length c, .int .i64 h, .int .i64 k, .int .i64 n] w fun e w' => e = .returned (.tuple #[.int .i64 0, .int .i64 1]) ∧ Below w.heap.size w w' := by
  cases hv : roomsOk l
  case false =>
    go_enter Try.func20, Try.ntmps20
    go_wp2_with fail
    refine (rmvalid_any l A c _ (hs.up (by repeat' (first | (with_reducible exact Below.refl _ _) | (with_reducible assumption) | (with_reducible refine below_drewN ?_ _) | (with_reducible refine Below.drew ?_) | (with_reducible refine below_regrown_up _ _ ?_ ?_) | (with_reducible refine Below.alloc ?_ ?_ _) | (with_reducible refine Below.setCell ?_ ?_ _) | (with_reducible refine below_up ?_ ?_ (by assumption)) | (with_reducible exact Nat.le_refl _) | omega | (simp; done) | (simp; omega)))) hl hT).mono ?_
    rintro e w1 ⟨rfl, hb1⟩; have hz1 := hb1.size; (try simp only [World.size_alloc, World.size_setCell, World.size_drew, size_drewN', size_grow, size_redrawn] at hz1); obtain ⟨hc1, hf1⟩ := bcellB (B := w.heap.size + 1) hb1 (by first | omega | (simp only [World.size_alloc, World.size_setCell, World.size_drew, size_drewN', size_grow, size_redrawn]; omega))
    rw [hv]
    go_wp2_with fail
    go_ret2
    refine ⟨rfl, ?_⟩
    repeat' (first
      | (with_reducible exact Below.refl _ _)
      | (with_reducible assumption)
      | (with_reducible refine below_drewN ?_ _)
      | (with_reducible refine Below.drew ?_)
      | (with_reducible refine below_regrown_up _ _ ?_ ?_)
      | (with_reducible refine Below.alloc ?_ ?_ _)
      | (with_reducible refine Below.setCell ?_ ?_ _)
      | (with_reducible refine below_up ?_ ?_ (by assumption))
      | (with_reducible exact Nat.le_refl _)
      | omega
      | (simp; done)
      | (simp; omega))
  cases i1 : inB h 1 20
  case false =>
    go_enter Try.func20, Try.ntmps20
    go_wp2_with fail
    refine (rmvalid_any l A c _ (hs.up (by repeat' (first | (with_reducible exact Below.refl _ _) | (with_reducible assumption) | (with_reducible refine below_drewN ?_ _) | (with_reducible refine Below.drew ?_) | (with_reducible refine below_regrown_up _ _ ?_ ?_) | (with_reducible refine Below.alloc ?_ ?_ _) | (with_reducible refine Below.setCell ?_ ?_ _) | (with_reducible refine below_up ?_ ?_ (by assumption)) | (with_reducible exact Nat.le_refl _) | omega | (simp; done) | (simp; omega)))) hl hT).mono ?_
    rintro e w1 ⟨rfl, hb1⟩; have hz1 := hb1.size; (try simp only [World.size_alloc, World.size_setCell, World.size_drew, size_drewN', size_grow, size_redrawn] at hz1); obtain ⟨hc1, hf1⟩ := bcellB (B := w.heap.size + 1) hb1 (by first | omega | (simp only [World.size_alloc, World.size_setCell, World.size_drew, size_drewN', size_grow, size_redrawn]; omega))
    rw [hv]
    go_wp2_with fail
    refine (rm_within_any _ _ _ _).mono ?_
    rintro e w2 ⟨rfl, rfl⟩
    rw [i1]
    go_wp2_with fail
    go_ret2
    refine ⟨rfl, ?_⟩
    repeat' (first
      | (with_reducible exact Below.refl _ _)
      | (with_reducible assumption)
      | (with_reducible refine below_drewN ?_ _)
      | (with_reducible refine Below.drew ?_)
      | (with_reducible refine below_regrown_up _ _ ?_ ?_)
      | (with_reducible refine Below.alloc ?_ ?_ _)
      | (with_reducible refine Below.setCell ?_ ?_ _)
      | (with_reducible refine below_up ?_ ?_ (by assumption))
      | (with_reducible exact Nat.le_refl _)
      | omega
      | (simp; done)
      | (simp; omega))
  cases i2 : inB k 1 20
  case false =>
    go_enter Try.func20, Try.ntmps20
    go_wp2_with fail
    refine (rmvalid_any l A c _ (hs.up (by repeat' (first | (with_reducible exact Below.refl _ _) | (with_reducible assumption) | (with_reducible refine below_drewN ?_ _) | (with_reducible refine Below.drew ?_) | (with_reducible refine below_regrown_up _ _ ?_ ?_) | (with_reducible refine Below.alloc ?_ ?_ _) | (with_reducible refine Below.setCell ?_ ?_ _) | (with_reducible refine below_up ?_ ?_ (by assumption)) | (with_reducible exact Nat.le_refl _) | omega | (simp; done) | (simp; omega)))) hl hT).mono ?_
    rintro e w1 ⟨rfl, hb1⟩; have hz1 := hb1.size; (try simp only [World.size_alloc, World.size_setCell, World.size_drew, size_drewN', size_grow, size_redrawn] at hz1); obtain ⟨hc1, hf1⟩ := bcellB (B := w.heap.size + 1) hb1 (by first | omega | (simp only [World.size_alloc, World.size_setCell, World.size_drew, size_drewN', size_grow, size_redrawn]; omega))
    rw [hv]
    go_wp2_with fail
    refine (rm_within_any _ _ _ _).mono ?_
    rintro e w2 ⟨rfl, rfl⟩
    rw [i1]
    go_wp2_with fail
    refine (rm_within_any _ _ _ _).mono ?_
    rintro e w2 ⟨rfl, rfl⟩
    rw [i2]
    go_wp2_with fail
    go_ret2
    refine ⟨rfl, ?_⟩
    repeat' (first
      | (with_reducible exact Below.refl _ _)
      | (with_reducible assumption)
      | (with_reducible refine below_drewN ?_ _)
      | (with_reducible refine Below.drew ?_)
      | (with_reducible refine below_regrown_up _ _ ?_ ?_)
      | (with_reducible refine Below.alloc ?_ ?_ _)
      | (with_reducible refine Below.setCell ?_ ?_ _)
      | (with_reducible refine below_up ?_ ?_ (by assumption))
      | (with_reducible exact Nat.le_refl _)
      | omega
      | (simp; done)
      | (simp; omega))
  cases i3 : inB n 0 365
  case false =>
    go_enter Try.func20, Try.ntmps20
    go_wp2_with fail
    refine (rmvalid_any l A c _ (hs.up (by repeat' (first | (with_reducible exact Below.refl _ _) | (with_reducible assumption) | (with_reducible refine below_drewN ?_ _) | (with_reducible refine Below.drew ?_) | (with_reducible refine below_regrown_up _ _ ?_ ?_) | (with_reducible refine Below.alloc ?_ ?_ _) | (with_reducible refine Below.setCell ?_ ?_ _) | (with_reducible refine below_up ?_ ?_ (by assumption)) | (with_reducible exact Nat.le_refl _) | omega | (simp; done) | (simp; omega)))) hl hT).mono ?_
    rintro e w1 ⟨rfl, hb1⟩; have hz1 := hb1.size; (try simp only [World.size_alloc, World.size_setCell, World.size_drew, size_drewN', size_grow, size_redrawn] at hz1); obtain ⟨hc1, hf1⟩ := bcellB (B := w.heap.size + 1) hb1 (by first | omega | (simp only [World.size_alloc, World.size_setCell, World.size_drew, size_drewN', size_grow, size_redrawn]; omega))
    rw [hv]
    go_wp2_with fail
    refine (rm_within_any _ _ _ _).mono ?_
    rintro e w2 ⟨rfl, rfl⟩
    rw [i1]
    go_wp2_with fail
    refine (rm_within_any _ _ _ _).mono ?_
    rintro e w2 ⟨rfl, rfl⟩
    rw [i2]
    go_wp2_with fail
    refine (rm_within_any _ _ _ _).mono ?_
    rintro e w2 ⟨rfl, rfl⟩
    rw [i3]
    go_wp2_with fail
    go_ret2
    refine ⟨rfl, ?_⟩
    repeat' (first
      | (with_reducible exact Below.refl _ _)
      | (with_reducible assumption)
      | (with_reducible refine below_drewN ?_ _)
      | (with_reducible refine Below.drew ?_)
      | (with_reducible refine below_regrown_up _ _ ?_ ?_)
      | (with_reducible refine Below.alloc ?_ ?_ _)
      | (with_reducible refine Below.setCell ?_ ?_ _)
      | (with_reducible refine below_up ?_ ?_ (by assumption))
      | (with_reducible exact Nat.le_refl _)
      | omega
      | (simp; done)
      | (simp; omega))
  rw [hv, i1, i2, i3] at hx
  cases hx
theorem count_ok (l : List Room) (A : Option Addr) (c : Nat) (h k n : Int) (w : World) (hs : SlRoom w A l) (hT : Tame l) (hv : roomsOk l = true) (i1 : inB h 1 20 = true) (i2 : inB k 1 20 = true) (i3 : inB n 0 365 = true) :
    Calls Try.prog 20 #[.slice A l.length c, .int .i64 h, .int .i64 k, .int .i64 n] w fun e w' => e = .returned (.tuple #[.int .i64 (cntM l h k n), .int .i64 0]) ∧ Below w.heap.size w w' := by
  have hl4 := (roomsOk_iff.1 hv).1
  have hn : 0 ≤ n ∧ n ≤ 365 := inB_iff.1 i3
  have hwrn : IntKind.i64.wrap (n + 1) = n + 1 := by rw [IntKind.wrap_i64]; omega
  have HOK := Lib.hid (roomsOk_iff.1 hv).2.1
  have HT := Lib.hid hT
  refine (callsIn_wide (n := 9)).1 ?_
  refine callsIn_of_wp_marks Try.func20 rfl trivial ?_ rfl
  simp only [Try.ntmps20, List.size_toArray, List.length_cons, List.length_nil, Nat.reduceAdd, Nat.reduceSub, Array.replicate_succ, Array.replicate_zero, List.push_toArray, List.append_toArray, List.nil_append, List.cons_append]
  gi_wp2_with (first
    | (refine ⟨trivial, ?_⟩; gi_at_call 13; refine (callsIn_wide.2 (rmvalid_any l A c _ (hs.up (by repeat' (first | (with_reducible exact Below.refl _ _) | (with_reducible assumption) | (with_reducible refine below_drewN ?_ _) | (with_reducible refine Below.drew ?_) | (with_reducible refine below_regrown_up _ _ ?_ ?_) | (with_reducible refine Below.alloc ?_ ?_ _) | (with_reducible refine Below.setCell ?_ ?_ _) | (with_reducible refine below_up ?_ ?_ (by assumption)) | (with_reducible exact Nat.le_refl _) | omega | (simp; done) | (simp; omega)))) (by omega) HT.out)).mono ?_; rintro e w1 ⟨rfl, hb1⟩; have hz1 := hb1.size; (try simp only [World.size_alloc, World.size_setCell, World.size_drew, size_drewN', size_grow, size_redrawn] at hz1); obtain ⟨hc1, hf1⟩ := bcellB (B := w.heap.size + 1) hb1 (by first | omega | (simp only [World.size_alloc, World.size_setCell, World.size_drew, size_drewN', size_grow, size_redrawn]; omega)); rw [hv])
    | (refine ⟨trivial, ?_⟩; gi_at_call 28; refine (callsIn_wide.2 (rm_within_any _ _ _ _)).mono ?_; rintro e w2 ⟨rfl, rfl⟩; first | rw [i1] | rw [i2] | rw [i3])
    | (refine ⟨trivial, ?_⟩; gi_at_call 38; refine (callsIn_wide.2 (rof_any A l.length c h k _)).mono ?_; rintro e w3 ⟨rfl, hw3⟩))
  have hb3 : Below w.heap.size w w3 := by
    rw [hw3]
    repeat' (first
      | (with_reducible exact Below.refl _ _)
      | (with_reducible assumption)
      | (with_reducible refine below_drewN ?_ _)
      | (with_reducible refine Below.drew ?_)
      | (with_reducible refine below_regrown_up _ _ ?_ ?_)
      | (with_reducible refine Below.alloc ?_ ?_ _)
      | (with_reducible refine Below.setCell ?_ ?_ _)
      | (with_reducible refine below_up ?_ ?_ (by assumption))
      | (with_reducible exact Nat.le_refl _)
      | omega
      | (simp; done)
      | (simp; omega))
  have hws : w3.heap.size = w1.heap.size + 1 + 1 + 1 + 1 := by rw [hw3]; simp
  have hwn : w.heap.size < w1.heap.size := by omega
  have k0 : w3.cell? ⟨w1.heap.size, 0, none⟩ = some (.int .i64 0) := by rw [hw3]; go_simp
  have k1 : w3.cell? ⟨w1.heap.size + 1, 0, none⟩ = some (.slice A l.length c) := by rw [hw3]; go_simp
  have k2 : w3.cell? ⟨w1.heap.size + 1 + 1, 0, none⟩ = some (.int .i64 h) := by rw [hw3]; go_simp
  have k3 : w3.cell? ⟨w1.heap.size + 1 + 1 + 1, 0, none⟩ = some (.int .i64 k) := by rw [hw3]; go_simp
  have g0 : w3.frozen? ⟨w1.heap.size, 0, none⟩ = false := by rw [hw3]; go_simp
  have kn1 : w1.cell? ⟨w.heap.size, 0, none⟩ = some (.int .i64 n) := by rw [hc1 _ _ (by omega)]; go_simp
  have hb13 : Below w1.heap.size w1 w3 := by
    rw [hw3]
    repeat' (first
      | (with_reducible exact Below.refl _ _)
      | (with_reducible assumption)
      | (with_reducible refine below_drewN ?_ _)
      | (with_reducible refine Below.drew ?_)
      | (with_reducible refine below_regrown_up _ _ ?_ ?_)
      | (with_reducible refine Below.alloc ?_ ?_ _)
      | (with_reducible refine Below.setCell ?_ ?_ _)
      | (with_reducible refine below_up ?_ ?_ (by assumption))
      | (with_reducible exact Nat.le_refl _)
      | omega
      | (simp; done)
      | (simp; omega))
  have kn : w3.cell? ⟨w.heap.size, 0, none⟩ = some (.int .i64 n) := (hb13.cell (p := ⟨w.heap.size, 0, none⟩) hwn).trans kn1
  obtain ⟨L, hLl, hLs⟩ := hs.toX HOK.out HT.out
  have hLn : L.length = l.length := by rw [← hLl, List.length_map]
  have HLL := Lib.hid hLl
  clear hLl
  have h00 : CntI w w w1.heap.size n ([] : List (RoomX w)) w3 := ⟨k0, g0, kn, by omega, hb3⟩
  have hXs : ∀ j, (j < w.heap.size ∨ j = w1.heap.size + 1 ∨ j = w1.heap.size + 1 + 1 ∨ j = w1.heap.size + 1 + 1 + 1) → j < w3.heap.size := fun j hj => by rcases hj with h | h | h | h <;> omega
  have hst := rof_stops 8 (by omega) (w1.heap.size + 1) (w1.heap.size + 1 + 1) (w1.heap.size + 1 + 1 + 1) (fun j => j < w.heap.size ∨ j = w1.heap.size + 1 ∨ j = w1.heap.size + 1 + 1 ∨ j = w1.heap.size + 1 + 1 + 1) L h k A c w3
    (.inr (.inl rfl)) (.inr (.inr (.inl rfl))) (.inr (.inr (.inr rfl))) (fun hne bk off e => by
      obtain ⟨b', off', e', hlt, _⟩ := hLs hne
      rw [e] at e'
      injection e' with e'
      injection e' with e1 e2
      exact .inl (by omega)) hXs (by rw [hLn]; exact k1) k2 k3 (hLs.up hb3) (by omega)
  rw [← hw3]
  clear k0 k1 k2 k3 g0 kn hb1 hc1 hf1
  refine wpIn_rangeFunc_ownH (w := w3) rfl (by omega) (gf := 50) (lb := #[.pointer (some ⟨w1.heap.size + 1, 0, none⟩), .pointer (some ⟨w1.heap.size + 1 + 1, 0, none⟩), .pointer (some ⟨w1.heap.size + 1 + 1 + 1, 0, none⟩)]) rfl trivial (enters_of Try.func50 (by kernel_rfl) rfl)
    hst (fun h k => ⟨h.1.trans k.1, Nat.le_trans h.2 k.2⟩) (fun W l o o' h1 h2 h3 h4 => ⟨keepOn_b hXs W l o o' h1 h2 h3 h4, by simp⟩) (Below.refl _ _) (fun _ => rfl)
    (CntI w w w1.heap.size n) (fun _ _ _ => False) (cntI_own (by omega)) (fun _ _ _ _ _ hs _ _ => hs) h00
    (fun x a' W => ∃ Bx, w1.heap.size + 1 + 1 + 1 < Bx ∧ (∀ (j : Nat) (u : Value), (encX x)[j]? = some u → W.cell? ⟨Bx, j, none⟩ = some u) ∧ a' = { tmps := #[Value.slice A l.length c, Value.int IntKind.i64 h, Value.int IntKind.i64 k, Value.int IntKind.i64 n, undef, undef, undef, Value.pointer (some { block := w.heap.size, off := 0 }), Value.int IntKind.i64 0, Value.int IntKind.i64 0, Value.pointer (some { block := w1.heap.size, off := 0 }), .pointer (some ⟨Bx, 0, none⟩), Value.slice A l.length c, Value.bool true, Value.bool false, Value.bool false, Value.int IntKind.i64 h, Value.bool true, Value.bool false, Value.bool false, Value.bool false, Value.int IntKind.i64 k, Value.bool true, Value.bool false, Value.bool false, Value.bool false, Value.int IntKind.i64 n, Value.bool true, Value.bool false, Value.bool false, Value.slice A l.length c, Value.int IntKind.i64 h, Value.int IntKind.i64 k, Value.func (Fn.func 50) #[] #[Value.pointer (some { block := w1.heap.size + 1, off := 0 }), Value.pointer (some { block := w1.heap.size + 1 + 1, off := 0 }), Value.pointer (some { block := w1.heap.size + 1 + 1 + 1, off := 0 })], x.1.1.v x.1.2.1 x.1.2.2, undef, undef, undef, undef, undef, undef, undef, undef, undef], defers := [] })
    (fun x a' _ X Y row hs hg hr => by obtain ⟨Bx, h1, h2, h3⟩ := hs; exact ⟨Bx, h1, fun j u hu => cell_kept (h2 j u hu) hg (fun r e => (hr r e).2), h3⟩)
    ?assign ?body ?done ?stop
  case assign =>
    intro l pre x W K hI hK
    gi_wp2
    refine hK _ _ ((KeepsOthers.alloc _ _).from _) ⟨(KeepOn.refl _ W).alloc (fun k hk => by have := hXs k hk; have := hI.size; omega) _, by simp⟩ ((cntI_own (B := w3.heap.size) (by omega)).alloc _ hI) ⟨W.heap.size, by have := hI.size; omega, news_new _ _ _ _ rfl, rfl⟩
  case body =>
    rintro l' pre x a' W hl' ⟨r, hr⟩ hI ⟨Bx, hBx, hcx, rfl⟩ hlen
    have box := hI.cnt
    have fr := hI.fr
    have night := hI.night
    have hsz := hI.size
    have q0 := hcx 0 _ rfl
    have q1 := hcx 1 _ rfl
    have q2 := hcx 2 _ rfl
    have q3 := hcx 3 _ rfl
    have q4 := hcx 4 _ rfl
    have q5 := hcx 5 _ rfl
    have hsx := x.2.1.up hI.below
    have hokx := Room.ok_iff.1 x.2.2.1
    have hlx := x.2.2.2
    have hset := hokx.2.1
    have hsn : (⟨n, n + 1⟩ : Spn).ok = true := Spn.ok_iff.2 (by simp only; omega)
    have HS := Lib.hid (cntX_snoc pre x n)
    have hpl : (0 : Int) ≤ (cntX pre n : Int) ∧ (cntX pre n : Int) ≤ 400 := by
      have h1 : cntX pre n ≤ pre.length := List.countP_le_length
      have h2 : (ofX L h k).length ≤ L.length := List.length_filter_le _ _
      omega
    have hwc : IntKind.i64.wrap ((cntX pre n : Int) + 1) = (cntX pre n : Int) + 1 := by rw [IntKind.wrap_i64]; omega
    have hXs' := Lib.hid hXs
    have HI := Lib.hid hI
    clear hcx hokx hXs hI
    cases hf : freeR x.1.1.blk ⟨n, n + 1⟩
    · have HC : Hid (cntX (pre ++ [x]) n = cntX pre n) := Lib.hid (by rw [HS.out, show freeR x.1.1.blk (nightS n) = false from hf]; rfl)
      gi_wp2_with (refine ⟨trivial, ?_⟩; gi_at_call 33; refine (callsIn_wide.2 (free0_any x.1.1 x.1.2.1 x.1.2.2 ⟨n, n + 1⟩ _ hsx hlx hset hsn)).mono ?_; rintro e w4 ⟨rfl, hb4⟩; rw [hf])
      refine ⟨KeepsFrom.of_grownBy (grownBy_below hb4 none) (fun j e => by cases e), ⟨KeepOn.below hb4 (fun j hj => by have := hXs'.out j hj; omega), hb4.size⟩, ?_⟩
      exact ⟨by rw [HC.out]; exact (hb4.cell (p := ⟨w1.heap.size, 0, none⟩) (show w1.heap.size < W.heap.size by omega)).trans box, (hb4.frozen (p := ⟨w1.heap.size, 0, none⟩) (show w1.heap.size < W.heap.size by omega)).trans fr, (hb4.cell (p := ⟨w.heap.size, 0, none⟩) (show w.heap.size < W.heap.size by omega)).trans night, by have := hb4.size; omega, below_up HI.out.below (by omega) hb4⟩
    · have HC : Hid (cntX (pre ++ [x]) n = cntX pre n + 1) := Lib.hid (by rw [HS.out, show freeR x.1.1.blk (nightS n) = true from hf]; rfl)
      gi_wp2_with (refine ⟨trivial, ?_⟩; gi_at_call 33; refine (callsIn_wide.2 (free0_any x.1.1 x.1.2.1 x.1.2.2 ⟨n, n + 1⟩ _ hsx hlx hset hsn)).mono ?_; rintro e w4 ⟨rfl, hb4⟩; rw [hf]; have box4 := (hb4.cell (p := ⟨w1.heap.size, 0, none⟩) (show w1.heap.size < W.heap.size by omega)).trans box; have fr4 := (hb4.frozen (p := ⟨w1.heap.size, 0, none⟩) (show w1.heap.size < W.heap.size by omega)).trans fr)
      refine ⟨(KeepsFrom.of_grownBy (grownBy_below hb4 none) (fun j e => by cases e)).trans ((KeepsOthers.setCell w4 _ _).from _), ⟨(KeepOn.below hb4 (fun j hj => by have := hXs'.out j hj; omega)).setCell (fun hj => by simp only at hj; omega) _, by rw [World.size_setCell]; exact hb4.size⟩, ?_⟩
      have hz4 := hb4.size
      refine ⟨?_, ?_, ?_, by rw [World.size_setCell]; omega, (below_up HI.out.below (by omega) hb4).setCell (by show w.heap.size ≤ w1.heap.size; omega) _⟩
      · rw [HC.out]
        exact World.cell?_setCell_same _ _ _ box4
      · rw [World.frozen?_setCell]
        exact fr4
      · rw [World.cell?_setCell_other _ _ _ _ (fun e => by injection e with e; omega)]
        exact (hb4.cell (p := ⟨w.heap.size, 0, none⟩) (show w.heap.size < W.heap.size by omega)).trans night
  case done =>
    rintro D' xs W hD rfl hI hK
    have box := hI.cnt
    gi_wp2
    refine ⟨by simp, .inl ⟨_, _, rfl, run_takeDeferred hK, ?_⟩⟩
    refine ⟨_, results_tmp2 rfl _ _ _, ?_, ?_⟩
    · have h1 := cntX_of L h k n
      rw [HLL.out] at h1
      rw [← h1]
      rfl
    · exact hI.below.trans (belowK_b (w := w) (Nat.le_refl _) _ D' _ _ (by omega) hK rfl rfl)
  case stop =>
    rintro D c pre W _ _ h _
    exact h.elim
theorem cntm_any (l : List Room) (A : Option Addr) (c : Nat) (h k n : Int) (w : World) (hs : SlRoom w A l) (hl : l.length ≤ 140737488355328) (hT : Tame l) :
    Calls Try.prog 20 #[.slice A l.length c, .int .i64 h, .int .i64 k, .int .i64 n] w fun e w' => e = .returned (.tuple #[.int .i64 (countM l h k n).1, .int .i64 (countM l h k n).2]) ∧ Below w.heap.size w w' := by
  cases hx : (roomsOk l && inB h 1 20 && inB k 1 20 && inB n 0 365)
  · refine (count_bad l A c h k n w hs hl hT hx).mono fun e w' ⟨h1, h2⟩ => ⟨?_, h2⟩
    unfold countM
    rw [hx]
    exact h1
  · have hx' := hx
    rw [Bool.and_eq_true, Bool.and_eq_true, Bool.and_eq_true] at hx'
    obtain ⟨⟨⟨h1, h2⟩, h3⟩, h4⟩ := hx'
    refine (count_ok l A c h k n w hs hT h1 h2 h3 h4).mono fun e w' ⟨e1, e2⟩ => ⟨?_, e2⟩
    unfold countM
    rw [if_pos hx]
    exact e1
end Go.Proofs.Ytphapnooonjnmaa
