/-
  Texts, one behind the other: FoW1, Com9.
-/
import Derived.Test.YtmlhoojcdidgkaaM09
import Derived.Test.YtmlhoojcdidgkaaM11
/-
  Package folio: accounts and sums.
-/
namespace Go.Proofs.Ytmlhoojcdidgkaa
set_option linter.unusedSimpArgs false
set_option linter.unusedVariables false
open Go.RowKit
open Go.Sort (grow size_grow)

set_option maxHeartbeats 1000000
set_option maxRecDepth 100000
theorem fo_within_any (n lo hi : Int) (w : World) :
    Calls Try.prog 40 #[.int .i64 n, .int .i64 lo, .int .i64 hi] w fun e w' => e = .returned (.bool (inB n lo hi)) ∧ w = w' := by
  by_cases h1 : lo ≤ n
  · by_cases h2 : n ≤ hi
    · go_enter Try.func40, Try.ntmps40
      go_wp2
      go_ret
      exact ⟨ret_bool (by rw [inB_t h1 h2]), rfl⟩
    · go_enter Try.func40, Try.ntmps40
      go_wp2
      go_ret
      exact ⟨ret_bool (by rw [inB_f (by omega)]), rfl⟩
  · go_enter Try.func40, Try.ntmps40
    go_wp2
    go_ret
    exact ⟨ret_bool (by rw [inB_f (by omega)]), rfl⟩
def Acc.cells (a : Acc) : Array Value := #[.int .i64 a.b.stay, .int .i64 a.b.channel, .int .i64 a.b.place, .int .i64 a.b.kind, .int .i64 a.b.frm, .int .i64 a.b.til, .int .i64 a.b.persons, .int .i64 a.b.price, .int .i64 a.b.keep, .int .i64 a.st, .int .i64 a.paid]
/-- An account that lies in a block of its own. -/
def AccIn (w : World) (g : Nat) (a : Acc) : Prop := w.heap[g]? = some (.cells a.cells 76 (0, 0))
theorem AccIn.lt {w : World} {g : Nat} {a : Acc} (h : AccIn w g a) : g < w.heap.size := (Array.getElem?_eq_some_iff.1 h).1
theorem AccIn.cell {w : World} {g : Nat} {a : Acc} (h : AccIn w g a) (o : Nat) : w.cell? ⟨g, o, none⟩ = a.cells[o]? := cell_of_row w g o _ _ _ h
theorem AccIn.free {w : World} {g : Nat} {a : Acc} (h : AccIn w g a) (o : Nat) : w.frozen? ⟨g, o, none⟩ = false := by
  unfold World.frozen?
  unfold AccIn at h
  simp [h]
theorem AccIn.of_eq {w w' : World} {g : Nat} {a : Acc} (h : AccIn w g a) (he : w'.heap[g]? = w.heap[g]?) : AccIn w' g a := by
  unfold AccIn at h ⊢
  rw [he, h]
theorem heap_below {B : Nat} {w w' : World} (h : Below B w w') {k : Nat} (hk : k < B) : w'.heap[k]? = w.heap[k]? := h.block k hk
theorem AccIn.up {w w' : World} {g : Nat} {a : Acc} (h : AccIn w g a) (hb : Below w.heap.size w w') : AccIn w' g a := h.of_eq (heap_below hb h.lt)
theorem guest_any (s : Int) (w : World) (h0 : 0 ≤ s) (h1 : s ≤ 1000000) : Calls Try.prog 42 #[.int .i64 s] w fun e w' => e = .returned (.int .i64 (guestA s)) ∧ w = w' := by
  have ht : s.tmod 100 = s % 100 := Int.tmod_eq_emod_of_nonneg h0
  have hw1 : IntKind.i64.wrap (500 + s % 100) = 500 + s % 100 := IntWalk.i64_in _ (by omega)
  go_enter Try.func42, Try.ntmps42
  go_wp2
  go_ret
  refine ⟨ret_int ?_, rfl⟩
  unfold guestA
  first | rfl | (rw [ht]; done) | omega
theorem direct_any (g : Nat) (a : Acc) (w : World) (h : AccIn w g a) : Calls Try.prog 63 #[.pointer (some ⟨g, 0, none⟩)] w fun e w' => e = .returned (.bool a.b.direct) ∧ w = w' := by
  have q1 : w.cell? ⟨g, 1, none⟩ = some (.int .i64 a.b.channel) := h.cell 1
  go_enter Try.func63, Try.ntmps63
  go_wp2
  go_ret
  exact ⟨ret_bool rfl, rfl⟩
theorem house_any (g : Nat) (a : Acc) (w : World) (h : AccIn w g a) (hb : a.b.ok = true) : Calls Try.prog 101 #[.pointer (some ⟨g, 0, none⟩)] w fun e w' => e = .returned (.int .i64 (300 + a.b.place)) ∧ w = w' := by
  have q2 : w.cell? ⟨g, 2, none⟩ = some (.int .i64 a.b.place) := h.cell 2
  have := Bill.ok_iff.1 hb
  have hw1 : IntKind.i64.wrap (300 + a.b.place) = 300 + a.b.place := IntWalk.i64_in _ (by omega)
  go_enter Try.func101, Try.ntmps101
  go_wp2
  go_ret
  exact ⟨ret_int rfl, rfl⟩
theorem payer_any (g : Nat) (a : Acc) (w : World) (h : AccIn w g a) (hb : a.b.ok = true) : Calls Try.prog 98 #[.pointer (some ⟨g, 0, none⟩)] w fun e w' => e = .returned (.int .i64 (payerA a.b)) ∧ w = w' := by
  have q0 : w.cell? ⟨g, 0, none⟩ = some (.int .i64 a.b.stay) := h.cell 0
  have q1 : w.cell? ⟨g, 1, none⟩ = some (.int .i64 a.b.channel) := h.cell 1
  have := Bill.ok_iff.1 hb
  have hw1 : IntKind.i64.wrap (200 + a.b.channel) = 200 + a.b.channel := IntWalk.i64_in _ (by omega)
  have hp : payerA a.b = if a.b.direct = true then guestA a.b.stay else 200 + a.b.channel := rfl
  have HP := Lib.hid hp
  clear hp
  cases hd : a.b.direct
  · go_enter Try.func98, Try.ntmps98
    go_wp2_with fail
    refine (direct_any g a _ h).mono ?_
    rintro e w1 ⟨rfl, rfl⟩
    rw [hd]
    go_wp2_with fail
    go_ret
    exact ⟨ret_int (by rw [HP.out, hd]; rfl), rfl⟩
  · go_enter Try.func98, Try.ntmps98
    go_wp2_with fail
    refine (direct_any g a _ h).mono ?_
    rintro e w1 ⟨rfl, rfl⟩
    rw [hd]
    go_wp2_with fail
    refine (guest_any _ _ (by omega) (by omega)).mono ?_
    rintro e w1 ⟨rfl, rfl⟩
    go_wp2_with fail
    go_ret
    exact ⟨ret_int (by rw [HP.out, hd]; rfl), rfl⟩
theorem all_any (e : Entry) (w : World) : Calls Try.prog 79 #[e.v] w fun x w' => x = .returned (.bool true) ∧ Below w.heap.size w w' := by
  go_enter Try.func79, Try.ntmps79
  go_wp2
  go_ret
  refine ⟨ret_bool rfl, ?_⟩
  repeat' (first
    | (with_reducible exact Below.refl _ _)
    | (with_reducible assumption)
    | (with_reducible refine below_drewN ?_ _)
    | (with_reducible refine Below.drew ?_)
    | (with_reducible refine below_regrown_up _ _ ?_ ?_)
    | (with_reducible refine Below.alloc ?_ ?_ _)
    | (with_reducible refine Below.setCell ?_ ?_ _)
    | (with_reducible refine below_up ?_ ?_ (by assumption))
    | (with_reducible exact Nat.le_refl _)
    | omega
    | (simp; done)
    | (simp; omega))
theorem of1_any (e : Entry) (s day : Int) (g1 g2 : Nat) (w : World) (h1 : w.cell? ⟨g1, 0, none⟩ = some (.int .i64 s)) (h2 : w.cell? ⟨g2, 0, none⟩ = some (.int .i64 day)) (l1 : g1 < w.heap.size) (l2 : g2 < w.heap.size) :
    Calls Try.prog 71 #[e.v, .pointer (some ⟨g1, 0, none⟩), .pointer (some ⟨g2, 0, none⟩)] w fun x w' => x = .returned (.bool ((e.ref == s) && decide (e.day ≤ day))) ∧ Below w.heap.size w w' := by
  go_enter Try.func71, Try.ntmps71
  go_wp2
  all_goals
    go_ret
    refine ⟨ret_bool ?_, ?_⟩
    · first | rfl | (simp [*]; done) | (simp_all; done)
    · repeat' (first
        | (with_reducible exact Below.refl _ _)
        | (with_reducible assumption)
        | (with_reducible refine below_drewN ?_ _)
        | (with_reducible refine Below.drew ?_)
        | (with_reducible refine below_regrown_up _ _ ?_ ?_)
        | (with_reducible refine Below.alloc ?_ ?_ _)
        | (with_reducible refine Below.setCell ?_ ?_ _)
        | (with_reducible refine below_up ?_ ?_ (by assumption))
        | (with_reducible exact Nat.le_refl _)
        | omega
        | (simp; done)
        | (simp; omega))
theorem own1_any (e : Entry) (g gb : Nat) (a : Acc) (w : World) (h : AccIn w g a) (h1 : w.cell? ⟨gb, 0, none⟩ = some (.pointer (some ⟨g, 0, none⟩))) (l1 : gb < w.heap.size) :
    Calls Try.prog 99 #[e.v, .pointer (some ⟨gb, 0, none⟩)] w fun x w' => x = .returned (.bool (ownE a.b e)) ∧ Below w.heap.size w w' := by
  have lg := h.lt
  have q0 : w.cell? ⟨g, 0, none⟩ = some (.int .i64 a.b.stay) := h.cell 0
  have HO : Hid (ownE a.b e = (!a.b.direct || (e.ref == a.b.stay))) := Lib.hid rfl
  cases hd : a.b.direct
  all_goals
    go_enter Try.func99, Try.ntmps99
    go_wp2_with fail
    refine name_world (fun W1 hW1 => ?_)
    have hz1' : W1.heap.size = w.heap.size + 1 := by rw [hW1]; simp
    have bW : Below w.heap.size w W1 := by rw [hW1]; exact (Below.refl _ _).alloc (Nat.le_refl _) _
    have qe : W1.cell? ⟨w.heap.size, 4, none⟩ = some (.int .i64 e.ref) := by rw [hW1]; go_simp
    have qb := (bW.cell (p := ⟨gb, 0, none⟩) l1).trans h1
    have qs := (bW.cell (p := ⟨g, 0, none⟩) lg).trans q0
    have hA := h.up bW
    have lx1 : gb < W1.heap.size := by omega
    have lx2 : g < W1.heap.size := by omega
    have lx3 : w.heap.size < W1.heap.size := by omega
    clear hW1
    have hgr := regrown_cells W1 (B := W1.heap.size) (by omega)
    refine wp_region_quiet_below (by kernel_rfl) (by kernel_rfl) ?_
    repeat (quiet_step ((go_at_call 63; exact quiet_s (direct_any g a _ (hA.up (below_regrown _ _ _))))))
    refine wpQuiet_nil ?_
    intro _ hw'
    obtain ⟨⟨dq, osq⟩, hw''⟩ := hw'
    subst hw''
    have hb1 := below_regrown W1 dq osq
    clear hgr
    generalize grow (redrawn W1 dq) osq = w1 at hb1 ⊢
    have hz1 := hb1.size
    (try simp only [World.size_alloc, World.size_setCell, World.size_drew, size_drewN', size_grow, size_redrawn] at hz1)
    obtain ⟨hc1, hf1⟩ := bcellB (B := W1.heap.size) hb1 (by first | omega | (simp only [World.size_alloc, World.size_setCell, World.size_drew, size_drewN', size_grow, size_redrawn]; omega))
    (try rw [hd])
    go_wp2_with fail
    go_ret
    exact ⟨ret_bool (by rw [HO.out, hd]; rfl), below_up bW bW.size hb1⟩
theorem sumE_step {a : Int} {q : Entry → Bool} {l : List Entry} {m : Nat} (hm : m < l.length) : sumE a q (l.take (m + 1)) = sumE a q (l.take m) + if q l[m] = true then sgn a l[m] else 0 := by
  rw [List.take_succ_eq_append_getElem hm, sumE_snoc]
def anyE (_ : Entry) : Bool := true
def ofE (s day : Int) (e : Entry) : Bool := (e.ref == s) && decide (e.day ≤ day)
theorem sum_all0 (l : List Entry) (A : Option Addr) (c : Nat) (a : Int) (_u : Unit) (w : World) (hs : SlEnt w A l) (hl : l.length ≤ 6000) (hc : CentsOk l) (hf : ∀ (e : Entry) (W : World), Below w.heap.size w W → Calls Try.prog 79 #[e.v] W fun x w' => x = .returned (.bool (anyE e)) ∧ Below W.heap.size W w') :
    Calls Try.prog 41 #[.slice A l.length c, .int .i64 a, .func (.func 79) #[] #[]] w fun e w' => e = .returned (.int .i64 (sumE a anyE l)) ∧ Below w.heap.size w w' := by
  have HF := Lib.hid hf
  clear hf
  go_enter Try.func41, Try.ntmps41
  go_wp2_with fail
  go_loopw [7, 12] (fun n i wr => ∃ m : Nat, m ≤ l.length ∧ i = .int .i64 m ∧ n = .int .i64 (sumE a anyE (l.take m)) ∧ Below w.heap.size w wr) (fun _ i _ => l.length - (intOf i).toNat)
  case atStart => exact ⟨0, by omega, rfl, rfl, Below.refl _ _⟩
  case round =>
    obtain ⟨m, hm, rfl, rfl, hbw⟩ := hrel
    have hbz := hbw.size
    by_cases hlt : m < l.length
    · have hx1 : (m : Int) < (l.length : Int) := by omega
      have hx4 : (0 : Int) ≤ (m : Int) := by omega
      have hstp := sumE_step (a := a) (q := anyE) hlt
      have hbd := sumE_bd (a := a) (q := anyE) (l := l.take m) (fun e he => hc e (List.mem_of_mem_take he))
      rw [List.length_take] at hbd
      have hce := hc _ (List.getElem_mem hlt)
      obtain ⟨b, off, rfl, hbl, hcell⟩ := (hs.up hbw).at_ hlt
      have q0 := hcell 0 _ rfl
      have q1 := hcell 1 _ rfl
      have q2 := hcell 2 _ rfl
      have q3 := hcell 3 _ rfl
      have q4 := hcell 4 _ rfl
      rw [Nat.add_zero] at q0
      clear hcell
      generalize sumE a anyE (l.take m) = z at *
      have hw1 : IntKind.i64.wrap (z + l[m].cents) = z + l[m].cents := IntWalk.i64_in _ (by omega)
      have hw2 : IntKind.i64.wrap (z - l[m].cents) = z - l[m].cents := IntWalk.i64_in _ (by omega)
      cases hq : anyE l[m]
      · rw [hq] at hstp
        have HST : Hid (sumE a anyE (l.take (m + 1)) = z) := Lib.hid (by simpa using hstp)
        clear hstp hbd
        go_wp2_with fail
        refine (HF.out l[m] _ (by repeat' (first | (with_reducible exact Below.refl _ _) | (with_reducible assumption) | (with_reducible refine below_drewN ?_ _) | (with_reducible refine Below.drew ?_) | (with_reducible refine below_regrown_up _ _ ?_ ?_) | (with_reducible refine Below.alloc ?_ ?_ _) | (with_reducible refine Below.setCell ?_ ?_ _) | (with_reducible refine below_up ?_ ?_ (by assumption)) | (with_reducible exact Nat.le_refl _) | omega | (simp; done) | (simp; omega)))).mono ?_
        rintro e w1 ⟨rfl, hb1⟩; have hz1 := hb1.size; (try simp only [World.size_alloc, World.size_setCell, World.size_drew, size_drewN', size_grow, size_redrawn] at hz1); obtain ⟨hc1, hf1⟩ := bcellB (B := wr.heap.size + 1) hb1 (by first | omega | (simp only [World.size_alloc, World.size_setCell, World.size_drew, size_drewN', size_grow, size_redrawn]; omega))
        rw [hq]
        go_wp2_with fail
        go_roundw
        case rel =>
          refine ⟨m + 1, by omega, by go_num, by rw [HST.out], ?_⟩
          repeat' (first
            | (with_reducible exact Below.refl _ _)
            | (with_reducible assumption)
            | (with_reducible refine below_drewN ?_ _)
            | (with_reducible refine Below.drew ?_)
            | (with_reducible refine below_regrown_up _ _ ?_ ?_)
            | (with_reducible refine Below.alloc ?_ ?_ _)
            | (with_reducible refine Below.setCell ?_ ?_ _)
            | (with_reducible refine below_up ?_ ?_ (by assumption))
            | (with_reducible exact Nat.le_refl _)
            | omega
            | (simp; done)
            | (simp; omega))
        case measure => simp [intOf]; omega
      · rw [hq, if_pos rfl] at hstp
        unfold sgn at hstp
        by_cases hd : l[m].debit = a
        · have hdb : (l[m].debit == a) = true := by rw [hd]; simp
          rw [if_pos hd] at hstp
          have HST := Lib.hid hstp
          clear hstp hbd hd
          go_wp2_with fail
          refine (HF.out l[m] _ (by repeat' (first | (with_reducible exact Below.refl _ _) | (with_reducible assumption) | (with_reducible refine below_drewN ?_ _) | (with_reducible refine Below.drew ?_) | (with_reducible refine below_regrown_up _ _ ?_ ?_) | (with_reducible refine Below.alloc ?_ ?_ _) | (with_reducible refine Below.setCell ?_ ?_ _) | (with_reducible refine below_up ?_ ?_ (by assumption)) | (with_reducible exact Nat.le_refl _) | omega | (simp; done) | (simp; omega)))).mono ?_
          rintro e w1 ⟨rfl, hb1⟩; have hz1 := hb1.size; (try simp only [World.size_alloc, World.size_setCell, World.size_drew, size_drewN', size_grow, size_redrawn] at hz1); obtain ⟨hc1, hf1⟩ := bcellB (B := wr.heap.size + 1) hb1 (by first | omega | (simp only [World.size_alloc, World.size_setCell, World.size_drew, size_drewN', size_grow, size_redrawn]; omega))
          rw [hq]
          go_wp2_with fail
          go_roundw
          case rel =>
            refine ⟨m + 1, by omega, by go_num, by rw [HST.out], ?_⟩
            repeat' (first
              | (with_reducible exact Below.refl _ _)
              | (with_reducible assumption)
              | (with_reducible refine below_drewN ?_ _)
              | (with_reducible refine Below.drew ?_)
              | (with_reducible refine below_regrown_up _ _ ?_ ?_)
              | (with_reducible refine Below.alloc ?_ ?_ _)
              | (with_reducible refine Below.setCell ?_ ?_ _)
              | (with_reducible refine below_up ?_ ?_ (by assumption))
              | (with_reducible exact Nat.le_refl _)
              | omega
              | (simp; done)
              | (simp; omega))
          case measure => simp [intOf]; omega
        · have hdb : (l[m].debit == a) = false := by rw [beq_eq_false_iff_ne]; exact hd
          rw [if_neg hd] at hstp
          by_cases hk : l[m].credit = a
          · have hkb : (l[m].credit == a) = true := by rw [hk]; simp
            rw [if_pos hk] at hstp
            have HST : Hid (sumE a anyE (l.take (m + 1)) = z - l[m].cents) := Lib.hid (by rw [hstp]; omega)
            clear hstp hbd hd hk
            go_wp2_with fail
            refine (HF.out l[m] _ (by repeat' (first | (with_reducible exact Below.refl _ _) | (with_reducible assumption) | (with_reducible refine below_drewN ?_ _) | (with_reducible refine Below.drew ?_) | (with_reducible refine below_regrown_up _ _ ?_ ?_) | (with_reducible refine Below.alloc ?_ ?_ _) | (with_reducible refine Below.setCell ?_ ?_ _) | (with_reducible refine below_up ?_ ?_ (by assumption)) | (with_reducible exact Nat.le_refl _) | omega | (simp; done) | (simp; omega)))).mono ?_
            rintro e w1 ⟨rfl, hb1⟩; have hz1 := hb1.size; (try simp only [World.size_alloc, World.size_setCell, World.size_drew, size_drewN', size_grow, size_redrawn] at hz1); obtain ⟨hc1, hf1⟩ := bcellB (B := wr.heap.size + 1) hb1 (by first | omega | (simp only [World.size_alloc, World.size_setCell, World.size_drew, size_drewN', size_grow, size_redrawn]; omega))
            rw [hq]
            go_wp2_with fail
            go_roundw
            case rel =>
              refine ⟨m + 1, by omega, by go_num, by rw [HST.out], ?_⟩
              repeat' (first
                | (with_reducible exact Below.refl _ _)
                | (with_reducible assumption)
                | (with_reducible refine below_drewN ?_ _)
                | (with_reducible refine Below.drew ?_)
                | (with_reducible refine below_regrown_up _ _ ?_ ?_)
                | (with_reducible refine Below.alloc ?_ ?_ _)
                | (with_reducible refine Below.setCell ?_ ?_ _)
                | (with_reducible refine below_up ?_ ?_ (by assumption))
                | (with_reducible exact Nat.le_refl _)
                | omega
                | (simp; done)
                | (simp; omega))
            case measure => simp [intOf]; omega
          · have hkb : (l[m].credit == a) = false := by rw [beq_eq_false_iff_ne]; exact hk
            rw [if_neg hk] at hstp
            have HST : Hid (sumE a anyE (l.take (m + 1)) = z) := Lib.hid (by rw [hstp]; omega)
            clear hstp hbd hd hk
            go_wp2_with fail
            refine (HF.out l[m] _ (by repeat' (first | (with_reducible exact Below.refl _ _) | (with_reducible assumption) | (with_reducible refine below_drewN ?_ _) | (with_reducible refine Below.drew ?_) | (with_reducible refine below_regrown_up _ _ ?_ ?_) | (with_reducible refine Below.alloc ?_ ?_ _) | (with_reducible refine Below.setCell ?_ ?_ _) | (with_reducible refine below_up ?_ ?_ (by assumption)) | (with_reducible exact Nat.le_refl _) | omega | (simp; done) | (simp; omega)))).mono ?_
            rintro e w1 ⟨rfl, hb1⟩; have hz1 := hb1.size; (try simp only [World.size_alloc, World.size_setCell, World.size_drew, size_drewN', size_grow, size_redrawn] at hz1); obtain ⟨hc1, hf1⟩ := bcellB (B := wr.heap.size + 1) hb1 (by first | omega | (simp only [World.size_alloc, World.size_setCell, World.size_drew, size_drewN', size_grow, size_redrawn]; omega))
            rw [hq]
            go_wp2_with fail
            go_roundw
            case rel =>
              refine ⟨m + 1, by omega, by go_num, by rw [HST.out], ?_⟩
              repeat' (first
                | (with_reducible exact Below.refl _ _)
                | (with_reducible assumption)
                | (with_reducible refine below_drewN ?_ _)
                | (with_reducible refine Below.drew ?_)
                | (with_reducible refine below_regrown_up _ _ ?_ ?_)
                | (with_reducible refine Below.alloc ?_ ?_ _)
                | (with_reducible refine Below.setCell ?_ ?_ _)
                | (with_reducible refine below_up ?_ ?_ (by assumption))
                | (with_reducible exact Nat.le_refl _)
                | omega
                | (simp; done)
                | (simp; omega))
            case measure => simp [intOf]; omega
    · obtain rfl : m = l.length := by omega
      rw [List.take_of_length_le (Nat.le_refl _)]
      go_wp2_with fail
      go_ret
      exact ⟨ret_int rfl, hbw⟩
theorem sum_of0 (l : List Entry) (A : Option Addr) (c : Nat) (a : Int) (s day : Int) (g1 g2 : Nat) (w : World) (hs : SlEnt w A l) (hl : l.length ≤ 6000) (hc : CentsOk l) (hf : ∀ (e : Entry) (W : World), Below w.heap.size w W → Calls Try.prog 71 #[e.v, .pointer (some ⟨g1, 0, none⟩), .pointer (some ⟨g2, 0, none⟩)] W fun x w' => x = .returned (.bool ((ofE s day) e)) ∧ Below W.heap.size W w') :
    Calls Try.prog 41 #[.slice A l.length c, .int .i64 a, .func (.func 71) #[] #[.pointer (some ⟨g1, 0, none⟩), .pointer (some ⟨g2, 0, none⟩)]] w fun e w' => e = .returned (.int .i64 (sumE a (ofE s day) l)) ∧ Below w.heap.size w w' := by
  have HF := Lib.hid hf
  clear hf
  go_enter Try.func41, Try.ntmps41
  go_wp2_with fail
  go_loopw [7, 12] (fun n i wr => ∃ m : Nat, m ≤ l.length ∧ i = .int .i64 m ∧ n = .int .i64 (sumE a (ofE s day) (l.take m)) ∧ Below w.heap.size w wr) (fun _ i _ => l.length - (intOf i).toNat)
  case atStart => exact ⟨0, by omega, rfl, rfl, Below.refl _ _⟩
  case round =>
    obtain ⟨m, hm, rfl, rfl, hbw⟩ := hrel
    have hbz := hbw.size
    by_cases hlt : m < l.length
    · have hx1 : (m : Int) < (l.length : Int) := by omega
      have hx4 : (0 : Int) ≤ (m : Int) := by omega
      have hstp := sumE_step (a := a) (q := (ofE s day)) hlt
      have hbd := sumE_bd (a := a) (q := (ofE s day)) (l := l.take m) (fun e he => hc e (List.mem_of_mem_take he))
      rw [List.length_take] at hbd
      have hce := hc _ (List.getElem_mem hlt)
      obtain ⟨b, off, rfl, hbl, hcell⟩ := (hs.up hbw).at_ hlt
      have q0 := hcell 0 _ rfl
      have q1 := hcell 1 _ rfl
      have q2 := hcell 2 _ rfl
      have q3 := hcell 3 _ rfl
      have q4 := hcell 4 _ rfl
      rw [Nat.add_zero] at q0
      clear hcell
      generalize sumE a (ofE s day) (l.take m) = z at *
      have hw1 : IntKind.i64.wrap (z + l[m].cents) = z + l[m].cents := IntWalk.i64_in _ (by omega)
      have hw2 : IntKind.i64.wrap (z - l[m].cents) = z - l[m].cents := IntWalk.i64_in _ (by omega)
      cases hq : (ofE s day) l[m]
      · rw [hq] at hstp
        have HST : Hid (sumE a (ofE s day) (l.take (m + 1)) = z) := Lib.hid (by simpa using hstp)
        clear hstp hbd
        go_wp2_with fail
        refine (HF.out l[m] _ (by repeat' (first | (with_reducible exact Below.refl _ _) | (with_reducible assumption) | (with_reducible refine below_drewN ?_ _) | (with_reducible refine Below.drew ?_) | (with_reducible refine below_regrown_up _ _ ?_ ?_) | (with_reducible refine Below.alloc ?_ ?_ _) | (with_reducible refine Below.setCell ?_ ?_ _) | (with_reducible refine below_up ?_ ?_ (by assumption)) | (with_reducible exact Nat.le_refl _) | omega | (simp; done) | (simp; omega)))).mono ?_
        rintro e w1 ⟨rfl, hb1⟩; have hz1 := hb1.size; (try simp only [World.size_alloc, World.size_setCell, World.size_drew, size_drewN', size_grow, size_redrawn] at hz1); obtain ⟨hc1, hf1⟩ := bcellB (B := wr.heap.size + 1) hb1 (by first | omega | (simp only [World.size_alloc, World.size_setCell, World.size_drew, size_drewN', size_grow, size_redrawn]; omega))
        rw [hq]
        go_wp2_with fail
        go_roundw
        case rel =>
          refine ⟨m + 1, by omega, by go_num, by rw [HST.out], ?_⟩
          repeat' (first
            | (with_reducible exact Below.refl _ _)
            | (with_reducible assumption)
            | (with_reducible refine below_drewN ?_ _)
            | (with_reducible refine Below.drew ?_)
            | (with_reducible refine below_regrown_up _ _ ?_ ?_)
            | (with_reducible refine Below.alloc ?_ ?_ _)
            | (with_reducible refine Below.setCell ?_ ?_ _)
            | (with_reducible refine below_up ?_ ?_ (by assumption))
            | (with_reducible exact Nat.le_refl _)
            | omega
            | (simp; done)
            | (simp; omega))
        case measure => simp [intOf]; omega
      · rw [hq, if_pos rfl] at hstp
        unfold sgn at hstp
        by_cases hd : l[m].debit = a
        · have hdb : (l[m].debit == a) = true := by rw [hd]; simp
          rw [if_pos hd] at hstp
          have HST := Lib.hid hstp
          clear hstp hbd hd
          go_wp2_with fail
          refine (HF.out l[m] _ (by repeat' (first | (with_reducible exact Below.refl _ _) | (with_reducible assumption) | (with_reducible refine below_drewN ?_ _) | (with_reducible refine Below.drew ?_) | (with_reducible refine below_regrown_up _ _ ?_ ?_) | (with_reducible refine Below.alloc ?_ ?_ _) | (with_reducible refine Below.setCell ?_ ?_ _) | (with_reducible refine below_up ?_ ?_ (by assumption)) | (with_reducible exact Nat.le_refl _) | omega | (simp; done) | (simp; omega)))).mono ?_
          rintro e w1 ⟨rfl, hb1⟩; have hz1 := hb1.size; (try simp only [World.size_alloc, World.size_setCell, World.size_drew, size_drewN', size_grow, size_redrawn] at hz1); obtain ⟨hc1, hf1⟩ := bcellB (B := wr.heap.size + 1) hb1 (by first | omega | (simp only [World.size_alloc, World.size_setCell, World.size_drew, size_drewN', size_grow, size_redrawn]; omega))
          rw [hq]
          go_wp2_with fail
          go_roundw
          case rel =>
            refine ⟨m + 1, by omega, by go_num, by rw [HST.out], ?_⟩
            repeat' (first
              | (with_reducible exact Below.refl _ _)
              | (with_reducible assumption)
              | (with_reducible refine below_drewN ?_ _)
              | (with_reducible refine Below.drew ?_)
              | (with_reducible refine below_regrown_up _ _ ?_ ?_)
              | (with_reducible refine Below.alloc ?_ ?_ _)
              | (with_reducible refine Below.setCell ?_ ?_ _)
              | (with_reducible refine below_up ?_ ?_ (by assumption))
              | (with_reducible exact Nat.le_refl _)
              | omega
              | (simp; done)
              | (simp; omega))
          case measure => simp [intOf]; omega
        · have hdb : (l[m].debit == a) = false := by rw [beq_eq_false_iff_ne]; exact hd
          rw [if_neg hd] at hstp
          by_cases hk : l[m].credit = a
          · have hkb : (l[m].credit == a) = true := by rw [hk]; simp
            rw [if_pos hk] at hstp
            have HST : Hid (sumE a (ofE s day) (l.take (m + 1)) = z - l[m].cents) := Lib.hid (by rw [hstp]; omega)
            clear hstp hbd hd hk
            go_wp2_with fail
            refine (HF.out l[m] _ (by repeat' (first | (with_reducible exact Below.refl _ _) | (with_reducible assumption) | (with_reducible refine below_drewN ?_ _) | (with_reducible refine Below.drew ?_) | (with_reducible refine below_regrown_up _ _ ?_ ?_) | (with_reducible refine Below.alloc ?_ ?_ _) | (with_reducible refine Below.setCell ?_ ?_ _) | (with_reducible refine below_up ?_ ?_ (by assumption)) | (with_reducible exact Nat.le_refl _) | omega | (simp; done) | (simp; omega)))).mono ?_
            rintro e w1 ⟨rfl, hb1⟩; have hz1 := hb1.size; (try simp only [World.size_alloc, World.size_setCell, World.size_drew, size_drewN', size_grow, size_redrawn] at hz1); obtain ⟨hc1, hf1⟩ := bcellB (B := wr.heap.size + 1) hb1 (by first | omega | (simp only [World.size_alloc, World.size_setCell, World.size_drew, size_drewN', size_grow, size_redrawn]; omega))
            rw [hq]
            go_wp2_with fail
            go_roundw
            case rel =>
              refine ⟨m + 1, by omega, by go_num, by rw [HST.out], ?_⟩
              repeat' (first
                | (with_reducible exact Below.refl _ _)
                | (with_reducible assumption)
                | (with_reducible refine below_drewN ?_ _)
                | (with_reducible refine Below.drew ?_)
                | (with_reducible refine below_regrown_up _ _ ?_ ?_)
                | (with_reducible refine Below.alloc ?_ ?_ _)
                | (with_reducible refine Below.setCell ?_ ?_ _)
                | (with_reducible refine below_up ?_ ?_ (by assumption))
                | (with_reducible exact Nat.le_refl _)
                | omega
                | (simp; done)
                | (simp; omega))
            case measure => simp [intOf]; omega
          · have hkb : (l[m].credit == a) = false := by rw [beq_eq_false_iff_ne]; exact hk
            rw [if_neg hk] at hstp
            have HST : Hid (sumE a (ofE s day) (l.take (m + 1)) = z) := Lib.hid (by rw [hstp]; omega)
            clear hstp hbd hd hk
            go_wp2_with fail
            refine (HF.out l[m] _ (by repeat' (first | (with_reducible exact Below.refl _ _) | (with_reducible assumption) | (with_reducible refine below_drewN ?_ _) | (with_reducible refine Below.drew ?_) | (with_reducible refine below_regrown_up _ _ ?_ ?_) | (with_reducible refine Below.alloc ?_ ?_ _) | (with_reducible refine Below.setCell ?_ ?_ _) | (with_reducible refine below_up ?_ ?_ (by assumption)) | (with_reducible exact Nat.le_refl _) | omega | (simp; done) | (simp; omega)))).mono ?_
            rintro e w1 ⟨rfl, hb1⟩; have hz1 := hb1.size; (try simp only [World.size_alloc, World.size_setCell, World.size_drew, size_drewN', size_grow, size_redrawn] at hz1); obtain ⟨hc1, hf1⟩ := bcellB (B := wr.heap.size + 1) hb1 (by first | omega | (simp only [World.size_alloc, World.size_setCell, World.size_drew, size_drewN', size_grow, size_redrawn]; omega))
            rw [hq]
            go_wp2_with fail
            go_roundw
            case rel =>
              refine ⟨m + 1, by omega, by go_num, by rw [HST.out], ?_⟩
              repeat' (first
                | (with_reducible exact Below.refl _ _)
                | (with_reducible assumption)
                | (with_reducible refine below_drewN ?_ _)
                | (with_reducible refine Below.drew ?_)
                | (with_reducible refine below_regrown_up _ _ ?_ ?_)
                | (with_reducible refine Below.alloc ?_ ?_ _)
                | (with_reducible refine Below.setCell ?_ ?_ _)
                | (with_reducible refine below_up ?_ ?_ (by assumption))
                | (with_reducible exact Nat.le_refl _)
                | omega
                | (simp; done)
                | (simp; omega))
            case measure => simp [intOf]; omega
    · obtain rfl : m = l.length := by omega
      rw [List.take_of_length_le (Nat.le_refl _)]
      go_wp2_with fail
      go_ret
      exact ⟨ret_int rfl, hbw⟩
theorem sum_own0 (l : List Entry) (A : Option Addr) (c : Nat) (a : Int) (gb : Nat) (bb : Bill) (w : World) (hs : SlEnt w A l) (hl : l.length ≤ 6000) (hc : CentsOk l) (hf : ∀ (e : Entry) (W : World), Below w.heap.size w W → Calls Try.prog 99 #[e.v, .pointer (some ⟨gb, 0, none⟩)] W fun x w' => x = .returned (.bool ((ownE bb) e)) ∧ Below W.heap.size W w') :
    Calls Try.prog 41 #[.slice A l.length c, .int .i64 a, .func (.func 99) #[] #[.pointer (some ⟨gb, 0, none⟩)]] w fun e w' => e = .returned (.int .i64 (sumE a (ownE bb) l)) ∧ Below w.heap.size w w' := by
  have HF := Lib.hid hf
  clear hf
  go_enter Try.func41, Try.ntmps41
  go_wp2_with fail
  go_loopw [7, 12] (fun n i wr => ∃ m : Nat, m ≤ l.length ∧ i = .int .i64 m ∧ n = .int .i64 (sumE a (ownE bb) (l.take m)) ∧ Below w.heap.size w wr) (fun _ i _ => l.length - (intOf i).toNat)
  case atStart => exact ⟨0, by omega, rfl, rfl, Below.refl _ _⟩
  case round =>
    obtain ⟨m, hm, rfl, rfl, hbw⟩ := hrel
    have hbz := hbw.size
    by_cases hlt : m < l.length
    · have hx1 : (m : Int) < (l.length : Int) := by omega
      have hx4 : (0 : Int) ≤ (m : Int) := by omega
      have hstp := sumE_step (a := a) (q := (ownE bb)) hlt
      have hbd := sumE_bd (a := a) (q := (ownE bb)) (l := l.take m) (fun e he => hc e (List.mem_of_mem_take he))
      rw [List.length_take] at hbd
      have hce := hc _ (List.getElem_mem hlt)
      obtain ⟨b, off, rfl, hbl, hcell⟩ := (hs.up hbw).at_ hlt
      have q0 := hcell 0 _ rfl
      have q1 := hcell 1 _ rfl
      have q2 := hcell 2 _ rfl
      have q3 := hcell 3 _ rfl
      have q4 := hcell 4 _ rfl
      rw [Nat.add_zero] at q0
      clear hcell
      generalize sumE a (ownE bb) (l.take m) = z at *
      have hw1 : IntKind.i64.wrap (z + l[m].cents) = z + l[m].cents := IntWalk.i64_in _ (by omega)
      have hw2 : IntKind.i64.wrap (z - l[m].cents) = z - l[m].cents := IntWalk.i64_in _ (by omega)
      cases hq : (ownE bb) l[m]
      · rw [hq] at hstp
        have HST : Hid (sumE a (ownE bb) (l.take (m + 1)) = z) := Lib.hid (by simpa using hstp)
        clear hstp hbd
        go_wp2_with fail
        refine (HF.out l[m] _ (by repeat' (first | (with_reducible exact Below.refl _ _) | (with_reducible assumption) | (with_reducible refine below_drewN ?_ _) | (with_reducible refine Below.drew ?_) | (with_reducible refine below_regrown_up _ _ ?_ ?_) | (with_reducible refine Below.alloc ?_ ?_ _) | (with_reducible refine Below.setCell ?_ ?_ _) | (with_reducible refine below_up ?_ ?_ (by assumption)) | (with_reducible exact Nat.le_refl _) | omega | (simp; done) | (simp; omega)))).mono ?_
        rintro e w1 ⟨rfl, hb1⟩; have hz1 := hb1.size; (try simp only [World.size_alloc, World.size_setCell, World.size_drew, size_drewN', size_grow, size_redrawn] at hz1); obtain ⟨hc1, hf1⟩ := bcellB (B := wr.heap.size + 1) hb1 (by first | omega | (simp only [World.size_alloc, World.size_setCell, World.size_drew, size_drewN', size_grow, size_redrawn]; omega))
        rw [hq]
        go_wp2_with fail
        go_roundw
        case rel =>
          refine ⟨m + 1, by omega, by go_num, by rw [HST.out], ?_⟩
          repeat' (first
            | (with_reducible exact Below.refl _ _)
            | (with_reducible assumption)
            | (with_reducible refine below_drewN ?_ _)
            | (with_reducible refine Below.drew ?_)
            | (with_reducible refine below_regrown_up _ _ ?_ ?_)
            | (with_reducible refine Below.alloc ?_ ?_ _)
            | (with_reducible refine Below.setCell ?_ ?_ _)
            | (with_reducible refine below_up ?_ ?_ (by assumption))
            | (with_reducible exact Nat.le_refl _)
            | omega
            | (simp; done)
            | (simp; omega))
        case measure => simp [intOf]; omega
      · rw [hq, if_pos rfl] at hstp
        unfold sgn at hstp
        by_cases hd : l[m].debit = a
        · have hdb : (l[m].debit == a) = true := by rw [hd]; simp
          rw [if_pos hd] at hstp
          have HST := Lib.hid hstp
          clear hstp hbd hd
          go_wp2_with fail
          refine (HF.out l[m] _ (by repeat' (first | (with_reducible exact Below.refl _ _) | (with_reducible assumption) | (with_reducible refine below_drewN ?_ _) | (with_reducible refine Below.drew ?_) | (with_reducible refine below_regrown_up _ _ ?_ ?_) | (with_reducible refine Below.alloc ?_ ?_ _) | (with_reducible refine Below.setCell ?_ ?_ _) | (with_reducible refine below_up ?_ ?_ (by assumption)) | (with_reducible exact Nat.le_refl _) | omega | (simp; done) | (simp; omega)))).mono ?_
          rintro e w1 ⟨rfl, hb1⟩; have hz1 := hb1.size; (try simp only [World.size_alloc, World.size_setCell, World.size_drew, size_drewN', size_grow, size_redrawn] at hz1); obtain ⟨hc1, hf1⟩ := bcellB (B := wr.heap.size + 1) hb1 (by first | omega | (simp only [World.size_alloc, World.size_setCell, World.size_drew, size_drewN', size_grow, size_redrawn]; omega))
          rw [hq]
          go_wp2_with fail
          go_roundw
          case rel =>
            refine ⟨m + 1, by omega, by go_num, by rw [HST.out], ?_⟩
            repeat' (first
              | (with_reducible exact Below.refl _ _)
              | (with_reducible assumption)
              | (with_reducible refine below_drewN ?_ _)
              | (with_reducible refine Below.drew ?_)
              | (with_reducible refine below_regrown_up _ _ ?_ ?_)
              | (with_reducible refine Below.alloc ?_ ?_ _)
              | (with_reducible refine Below.setCell ?_ ?_ _)
              | (with_reducible refine below_up ?_ ?_ (by assumption))
              | (with_reducible exact Nat.le_refl _)
              | omega
              | (simp; done)
              | (simp; omega))
          case measure => simp [intOf]; omega
        · have hdb : (l[m].debit == a) = false := by rw [beq_eq_false_iff_ne]; exact hd
          rw [if_neg hd] at hstp
          by_cases hk : l[m].credit = a
          · have hkb : (l[m].credit == a) = true := by rw [hk]; simp
            rw [if_pos hk] at hstp
            have HST : Hid (sumE a (ownE bb) (l.take (m + 1)) = z - l[m].cents) := Lib.hid (by rw [hstp]; omega)
            clear hstp hbd hd hk
            go_wp2_with fail
            refine (HF.out l[m] _ (by repeat' (first | (with_reducible exact Below.refl _ _) | (with_reducible assumption) | (with_reducible refine below_drewN ?_ _) | (with_reducible refine Below.drew ?_) | (with_reducible refine below_regrown_up _ _ ?_ ?_) | (with_reducible refine Below.alloc ?_ ?_ _) | (with_reducible refine Below.setCell ?_ ?_ _) | (with_reducible refine below_up ?_ ?_ (by assumption)) | (with_reducible exact Nat.le_refl _) | omega | (simp; done) | (simp; omega)))).mono ?_
            rintro e w1 ⟨rfl, hb1⟩; have hz1 := hb1.size; (try simp only [World.size_alloc, World.size_setCell, World.size_drew, size_drewN', size_grow, size_redrawn] at hz1); obtain ⟨hc1, hf1⟩ := bcellB (B := wr.heap.size + 1) hb1 (by first | omega | (simp only [World.size_alloc, World.size_setCell, World.size_drew, size_drewN', size_grow, size_redrawn]; omega))
            rw [hq]
            go_wp2_with fail
            go_roundw
            case rel =>
              refine ⟨m + 1, by omega, by go_num, by rw [HST.out], ?_⟩
              repeat' (first
                | (with_reducible exact Below.refl _ _)
                | (with_reducible assumption)
                | (with_reducible refine below_drewN ?_ _)
                | (with_reducible refine Below.drew ?_)
                | (with_reducible refine below_regrown_up _ _ ?_ ?_)
                | (with_reducible refine Below.alloc ?_ ?_ _)
                | (with_reducible refine Below.setCell ?_ ?_ _)
                | (with_reducible refine below_up ?_ ?_ (by assumption))
                | (with_reducible exact Nat.le_refl _)
                | omega
                | (simp; done)
                | (simp; omega))
            case measure => simp [intOf]; omega
          · have hkb : (l[m].credit == a) = false := by rw [beq_eq_false_iff_ne]; exact hk
            rw [if_neg hk] at hstp
            have HST : Hid (sumE a (ownE bb) (l.take (m + 1)) = z) := Lib.hid (by rw [hstp]; omega)
            clear hstp hbd hd hk
            go_wp2_with fail
            refine (HF.out l[m] _ (by repeat' (first | (with_reducible exact Below.refl _ _) | (with_reducible assumption) | (with_reducible refine below_drewN ?_ _) | (with_reducible refine Below.drew ?_) | (with_reducible refine below_regrown_up _ _ ?_ ?_) | (with_reducible refine Below.alloc ?_ ?_ _) | (with_reducible refine Below.setCell ?_ ?_ _) | (with_reducible refine below_up ?_ ?_ (by assumption)) | (with_reducible exact Nat.le_refl _) | omega | (simp; done) | (simp; omega)))).mono ?_
            rintro e w1 ⟨rfl, hb1⟩; have hz1 := hb1.size; (try simp only [World.size_alloc, World.size_setCell, World.size_drew, size_drewN', size_grow, size_redrawn] at hz1); obtain ⟨hc1, hf1⟩ := bcellB (B := wr.heap.size + 1) hb1 (by first | omega | (simp only [World.size_alloc, World.size_setCell, World.size_drew, size_drewN', size_grow, size_redrawn]; omega))
            rw [hq]
            go_wp2_with fail
            go_roundw
            case rel =>
              refine ⟨m + 1, by omega, by go_num, by rw [HST.out], ?_⟩
              repeat' (first
                | (with_reducible exact Below.refl _ _)
                | (with_reducible assumption)
                | (with_reducible refine below_drewN ?_ _)
                | (with_reducible refine Below.drew ?_)
                | (with_reducible refine below_regrown_up _ _ ?_ ?_)
                | (with_reducible refine Below.alloc ?_ ?_ _)
                | (with_reducible refine Below.setCell ?_ ?_ _)
                | (with_reducible refine below_up ?_ ?_ (by assumption))
                | (with_reducible exact Nat.le_refl _)
                | omega
                | (simp; done)
                | (simp; omega))
            case measure => simp [intOf]; omega
    · obtain rfl : m = l.length := by omega
      rw [List.take_of_length_le (Nat.le_refl _)]
      go_wp2_with fail
      go_ret
      exact ⟨ret_int rfl, hbw⟩
end Go.Proofs.Ytmlhoojcdidgkaa

/-
  Package commission: the reference's word on statements and ledgers.
-/
namespace Go.Proofs.Ytmlhoojcdidgkaa
set_option linter.unusedSimpArgs false
set_option linter.unusedVariables false
open Go.RowKit Go.Maps
open Go.Sort (grow size_grow)

set_option maxHeartbeats 4000000
set_option maxRecDepth 100000
def eOk (own : List Bill) (es : List Entry) (acc : Int) (e : Entry) : Prop := (e.debit ≠ acc ∧ e.credit ≠ acc) ∨ e.ref ∈ stays own ∨ movedR es acc e.ref = 0
instance (own : List Bill) (es : List Entry) (acc : Int) (e : Entry) : Decidable (eOk own es acc e) := by unfold eOk; infer_instance
def movedL (own : List Bill) (es : List Entry) (acc : Int) : List Int := own.map fun b => movedR es acc b.stay
def agrees (want st : List Int) (own : List Bill) (es : List Entry) (acc : Int) : Bool := decide (want = st ∧ movedL own es acc = want ∧ ∀ e ∈ es, eOk own es acc e)
theorem agrees_iff {want st : List Int} {own : List Bill} {es : List Entry} {acc : Int} : agrees want st own es acc = true ↔ want = st ∧ movedL own es acc = want ∧ ∀ e ∈ es, eOk own es acc e := by unfold agrees; rw [decide_eq_true_eq]
theorem agrees_no {want st : List Int} {own : List Bill} {es : List Entry} {acc : Int} (h : ¬ (want = st ∧ movedL own es acc = want ∧ ∀ e ∈ es, eOk own es acc e)) : agrees want st own es acc = false := by
  cases ha : agrees want st own es acc
  · rfl
  · exact absurd (agrees_iff.1 ha) h
def agreesR (p d : Int) (l : List Bill) (ch : Int) (st : List Int) (es : List Entry) : Bool × Int :=
  if (stmtR p d l ch).2.2 ≠ 0 then (false, (stmtR p d l ch).2.2) else if ledOk es = false then (false, 1) else (agrees (stmtR p d l ch).1 st (ofCh l ch) es (700 + ch), 0)
theorem stmtR_cases (p d : Int) (l : List Bill) (ch : Int) : (∃ er, stmtR p d l ch = ([], 0, er) ∧ (er = 1 ∨ er = 2 ∨ er = 3)) ∨
    (l.length ≤ 3000 ∧ partOk p d = true ∧ billsOk l = true ∧ inB ch 0 29 = true ∧ (comms p d (ofCh l ch)).sum ≤ 1000000000 ∧ stmtR p d l ch = (comms p d (ofCh l ch), (comms p d (ofCh l ch)).sum, 0)) := by
  by_cases h0 : 3000 < l.length
  · exact .inl ⟨2, stmtR_many h0, by omega⟩
  · cases h1 : (!partOk p d || !billsOk l || !inB ch 0 29)
    · have h2 : (partOk p d = true ∧ billsOk l = true) ∧ inB ch 0 29 = true := by simpa using h1
      by_cases h3 : 1000000000 < (comms p d (ofCh l ch)).sum
      · exact .inl ⟨3, stmtR_far (by omega) h2.1.1 h2.1.2 h2.2 h3, by omega⟩
      · exact .inr ⟨by omega, h2.1.1, h2.1.2, h2.2, by omega, stmtR_ok (by omega) h2.1.1 h2.1.2 h2.2 h3⟩
    · exact .inl ⟨1, stmtR_no (by omega) h1, by omega⟩
def RetBE (r : Bool × Int) (e : Ending) : Prop := e = .returned (.tuple #[.bool r.1, .int .i64 r.2])
theorem movedL_at {own : List Bill} {es : List Entry} {acc : Int} {m : Nat} (h : m < own.length) : (movedL own es acc)[m]'(by unfold movedL; simpa using h) = movedR es acc own[m].stay := by unfold movedL; rw [List.getElem_map]
theorem stays_snoc {own : List Bill} {k : Nat} (h : k < own.length) (r : Int) : decide (r ∈ stays (own.take (k + 1))) = (decide (r ∈ stays (own.take k)) || (own[k].stay == r)) := by
  rw [stays_take h, Bool.eq_iff_iff, decide_eq_true_eq, Bool.or_eq_true, decide_eq_true_eq, beq_iff_eq, List.mem_append, List.mem_singleton]
  constructor
  · rintro (h | h)
    · exact .inl h
    · exact .inr h.symm
  · rintro (h | h)
    · exact .inl h
    · exact .inr h.symm
end Go.Proofs.Ytmlhoojcdidgkaa
