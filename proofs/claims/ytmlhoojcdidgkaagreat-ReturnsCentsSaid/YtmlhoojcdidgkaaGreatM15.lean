/-
  Texts, one behind the other: FoW1, Com9, LedHead, LedMatches, LedZero, LedPosts, LedDays.
-/
import Derived.Test.YtmlhoojcdidgkaaGreatM11
import Derived.Test.YtmlhoojcdidgkaaGreatM14
/-
  Package folio: accounts and sums.
-/
namespace Go.Proofs.YtmlhoojcdidgkaaGreat
set_option linter.unusedSimpArgs false
set_option linter.unusedVariables false
open Go.RowKit
open Go.Sort (grow size_grow)

set_option maxHeartbeats 1000000
set_option maxRecDepth 100000
theorem fo_within_any (n lo hi : Int) (w : World) :
    Calls Tryz.prog 80 #[.int .i64 n, .int .i64 lo, .int .i64 hi] w fun e w' => e = .returned (.bool (inB n lo hi)) ∧ w = w' := by
  by_cases h1 : lo ≤ n
  · by_cases h2 : n ≤ hi
    · go_enter Tryz.func80, Tryz.ntmps80
      go_wp2
      go_ret
      exact ⟨ret_bool (by rw [inB_t h1 h2]), rfl⟩
    · go_enter Tryz.func80, Tryz.ntmps80
      go_wp2
      go_ret
      exact ⟨ret_bool (by rw [inB_f (by omega)]), rfl⟩
  · go_enter Tryz.func80, Tryz.ntmps80
    go_wp2
    go_ret
    exact ⟨ret_bool (by rw [inB_f (by omega)]), rfl⟩
def Acc.cells (a : Acc) : Array Value := #[.int .i64 a.b.stay, .int .i64 a.b.channel, .int .i64 a.b.place, .int .i64 a.b.kind, .int .i64 a.b.frm, .int .i64 a.b.til, .int .i64 a.b.persons, .int .i64 a.b.price, .int .i64 a.b.keep, .int .i64 a.st, .int .i64 a.paid]
/-- An account that lies in a block of its own. -/
def AccIn (w : World) (g : Nat) (a : Acc) : Prop := w.heap[g]? = some (.cells a.cells 99 (0, 0))
theorem AccIn.lt {w : World} {g : Nat} {a : Acc} (h : AccIn w g a) : g < w.heap.size := (Array.getElem?_eq_some_iff.1 h).1
theorem AccIn.cell {w : World} {g : Nat} {a : Acc} (h : AccIn w g a) (o : Nat) : w.cell? ⟨g, o, none⟩ = a.cells[o]? := cell_of_row w g o _ _ _ h
theorem AccIn.free {w : World} {g : Nat} {a : Acc} (h : AccIn w g a) (o : Nat) : w.frozen? ⟨g, o, none⟩ = false := by
  unfold World.frozen?
  unfold AccIn at h
  simp [h]
theorem AccIn.of_eq {w w' : World} {g : Nat} {a : Acc} (h : AccIn w g a) (he : w'.heap[g]? = w.heap[g]?) : AccIn w' g a := by
  unfold AccIn at h ⊢
  rw [he, h]
theorem heap_below {B : Nat} {w w' : World} (h : Below B w w') {k : Nat} (hk : k < B) : w'.heap[k]? = w.heap[k]? := h.block k hk
theorem AccIn.up {w w' : World} {g : Nat} {a : Acc} (h : AccIn w g a) (hb : Below w.heap.size w w') : AccIn w' g a := h.of_eq (heap_below hb h.lt)
theorem guest_any (s : Int) (w : World) (h0 : 0 ≤ s) (h1 : s ≤ 1000000) : Calls Tryz.prog 126 #[.int .i64 s] w fun e w' => e = .returned (.int .i64 (guestA s)) ∧ w = w' := by
  have ht : s.tmod 100 = s % 100 := Int.tmod_eq_emod_of_nonneg h0
  have hw1 : IntKind.i64.wrap (500 + s % 100) = 500 + s % 100 := IntWalk.i64_in _ (by omega)
  go_enter Tryz.func126, Tryz.ntmps126
  go_wp2
  go_ret
  refine ⟨ret_int ?_, rfl⟩
  unfold guestA
  first | rfl | (rw [ht]; done) | omega
theorem direct_any (g : Nat) (a : Acc) (w : World) (h : AccIn w g a) : Calls Tryz.prog 84 #[.pointer (some ⟨g, 0, none⟩)] w fun e w' => e = .returned (.bool a.b.direct) ∧ w = w' := by
  have q1 : w.cell? ⟨g, 1, none⟩ = some (.int .i64 a.b.channel) := h.cell 1
  go_enter Tryz.func84, Tryz.ntmps84
  go_wp2
  go_ret
  exact ⟨ret_bool rfl, rfl⟩
theorem house_any (g : Nat) (a : Acc) (w : World) (h : AccIn w g a) (hb : a.b.ok = true) : Calls Tryz.prog 127 #[.pointer (some ⟨g, 0, none⟩)] w fun e w' => e = .returned (.int .i64 (300 + a.b.place)) ∧ w = w' := by
  have q2 : w.cell? ⟨g, 2, none⟩ = some (.int .i64 a.b.place) := h.cell 2
  have := Bill.ok_iff.1 hb
  have hw1 : IntKind.i64.wrap (300 + a.b.place) = 300 + a.b.place := IntWalk.i64_in _ (by omega)
  go_enter Tryz.func127, Tryz.ntmps127
  go_wp2
  go_ret
  exact ⟨ret_int rfl, rfl⟩
theorem payer_any (g : Nat) (a : Acc) (w : World) (h : AccIn w g a) (hb : a.b.ok = true) : Calls Tryz.prog 123 #[.pointer (some ⟨g, 0, none⟩)] w fun e w' => e = .returned (.int .i64 (payerA a.b)) ∧ w = w' := by
  have q0 : w.cell? ⟨g, 0, none⟩ = some (.int .i64 a.b.stay) := h.cell 0
  have q1 : w.cell? ⟨g, 1, none⟩ = some (.int .i64 a.b.channel) := h.cell 1
  have := Bill.ok_iff.1 hb
  have hw1 : IntKind.i64.wrap (200 + a.b.channel) = 200 + a.b.channel := IntWalk.i64_in _ (by omega)
  have hp : payerA a.b = if a.b.direct = true then guestA a.b.stay else 200 + a.b.channel := rfl
  have HP := Lib.hid hp
  clear hp
  cases hd : a.b.direct
  · go_enter Tryz.func123, Tryz.ntmps123
    go_wp2_with fail
    refine (direct_any g a _ h).mono ?_
    rintro e w1 ⟨rfl, rfl⟩
    rw [hd]
    go_wp2_with fail
    go_ret
    exact ⟨ret_int (by rw [HP.out, hd]; rfl), rfl⟩
  · go_enter Tryz.func123, Tryz.ntmps123
    go_wp2_with fail
    refine (direct_any g a _ h).mono ?_
    rintro e w1 ⟨rfl, rfl⟩
    rw [hd]
    go_wp2_with fail
    refine (guest_any _ _ (by omega) (by omega)).mono ?_
    rintro e w1 ⟨rfl, rfl⟩
    go_wp2_with fail
    go_ret
    exact ⟨ret_int (by rw [HP.out, hd]; rfl), rfl⟩
theorem all_any (e : Entry) (w : World) : Calls Tryz.prog 106 #[e.v] w fun x w' => x = .returned (.bool true) ∧ Below w.heap.size w w' := by
  go_enter Tryz.func106, Tryz.ntmps106
  go_wp2
  go_ret
  refine ⟨ret_bool rfl, ?_⟩
  repeat' (first
    | (with_reducible exact Below.refl _ _)
    | (with_reducible assumption)
    | (with_reducible refine below_drewN ?_ _)
    | (with_reducible refine Below.drew ?_)
    | (with_reducible refine below_regrown_up _ _ ?_ ?_)
    | (with_reducible refine Below.alloc ?_ ?_ _)
    | (with_reducible refine Below.setCell ?_ ?_ _)
    | (with_reducible refine below_up ?_ ?_ (by assumption))
    | (with_reducible exact Nat.le_refl _)
    | omega
    | (simp; done)
    | (simp; omega))
theorem own1_any (e : Entry) (g gb : Nat) (a : Acc) (w : World) (h : AccIn w g a) (h1 : w.cell? ⟨gb, 0, none⟩ = some (.pointer (some ⟨g, 0, none⟩))) (l1 : gb < w.heap.size) :
    Calls Tryz.prog 124 #[e.v, .pointer (some ⟨gb, 0, none⟩)] w fun x w' => x = .returned (.bool (ownE a.b e)) ∧ Below w.heap.size w w' := by
  have lg := h.lt
  have q0 : w.cell? ⟨g, 0, none⟩ = some (.int .i64 a.b.stay) := h.cell 0
  have HO : Hid (ownE a.b e = (!a.b.direct || (e.ref == a.b.stay))) := Lib.hid rfl
  cases hd : a.b.direct
  all_goals
    go_enter Tryz.func124, Tryz.ntmps124
    go_wp2_with fail
    refine name_world (fun W1 hW1 => ?_)
    have hz1' : W1.heap.size = w.heap.size + 1 := by rw [hW1]; simp
    have bW : Below w.heap.size w W1 := by rw [hW1]; exact (Below.refl _ _).alloc (Nat.le_refl _) _
    have qe : W1.cell? ⟨w.heap.size, 4, none⟩ = some (.int .i64 e.ref) := by rw [hW1]; go_simp
    have qb := (bW.cell (p := ⟨gb, 0, none⟩) l1).trans h1
    have qs := (bW.cell (p := ⟨g, 0, none⟩) lg).trans q0
    have hA := h.up bW
    have lx1 : gb < W1.heap.size := by omega
    have lx2 : g < W1.heap.size := by omega
    have lx3 : w.heap.size < W1.heap.size := by omega
    clear hW1
    have hgr := regrown_cells W1 (B := W1.heap.size) (by omega)
    refine wp_region_quiet_below (by kernel_rfl) (by kernel_rfl) ?_
    repeat (quiet_step ((go_at_call 84; exact quiet_s (direct_any g a _ (hA.up (below_regrown _ _ _))))))
    refine wpQuiet_nil ?_
    intro _ hw'
    obtain ⟨⟨dq, osq⟩, hw''⟩ := hw'
    subst hw''
    have hb1 := below_regrown W1 dq osq
    clear hgr
    generalize grow (redrawn W1 dq) osq = w1 at hb1 ⊢
    have hz1 := hb1.size
    (try simp only [World.size_alloc, World.size_setCell, World.size_drew, size_drewN', size_grow, size_redrawn] at hz1)
    obtain ⟨hc1, hf1⟩ := bcellB (B := W1.heap.size) hb1 (by first | omega | (simp only [World.size_alloc, World.size_setCell, World.size_drew, size_drewN', size_grow, size_redrawn]; omega))
    (try rw [hd])
    go_wp2_with fail
    go_ret
    exact ⟨ret_bool (by rw [HO.out, hd]; rfl), below_up bW bW.size hb1⟩
theorem sumE_step {a : Int} {q : Entry → Bool} {l : List Entry} {m : Nat} (hm : m < l.length) : sumE a q (l.take (m + 1)) = sumE a q (l.take m) + if q l[m] = true then sgn a l[m] else 0 := by
  rw [List.take_succ_eq_append_getElem hm, sumE_snoc]
def anyE (_ : Entry) : Bool := true
def ofE (s day : Int) (e : Entry) : Bool := (e.ref == s) && decide (e.day ≤ day)
theorem sum_all0 (l : List Entry) (A : Option Addr) (c : Nat) (a : Int) (_u : Unit) (w : World) (hs : SlEnt w A l) (hl : l.length ≤ 6000) (hc : CentsOk l) (hf : ∀ (e : Entry) (W : World), Below w.heap.size w W → Calls Tryz.prog 106 #[e.v] W fun x w' => x = .returned (.bool (anyE e)) ∧ Below W.heap.size W w') :
    Calls Tryz.prog 105 #[.slice A l.length c, .int .i64 a, .func (.func 106) #[] #[]] w fun e w' => e = .returned (.int .i64 (sumE a anyE l)) ∧ Below w.heap.size w w' := by
  have HF := Lib.hid hf
  clear hf
  go_enter Tryz.func105, Tryz.ntmps105
  go_wp2_with fail
  go_loopw [7, 12] (fun n i wr => ∃ m : Nat, m ≤ l.length ∧ i = .int .i64 m ∧ n = .int .i64 (sumE a anyE (l.take m)) ∧ Below w.heap.size w wr) (fun _ i _ => l.length - (intOf i).toNat)
  case atStart => exact ⟨0, by omega, rfl, rfl, Below.refl _ _⟩
  case round =>
    obtain ⟨m, hm, rfl, rfl, hbw⟩ := hrel
    have hbz := hbw.size
    by_cases hlt : m < l.length
    · have hx1 : (m : Int) < (l.length : Int) := by omega
      have hx4 : (0 : Int) ≤ (m : Int) := by omega
      have hstp := sumE_step (a := a) (q := anyE) hlt
      have hbd := sumE_bd (a := a) (q := anyE) (l := l.take m) (fun e he => hc e (List.mem_of_mem_take he))
      rw [List.length_take] at hbd
      have hce := hc _ (List.getElem_mem hlt)
      obtain ⟨b, off, rfl, hbl, hcell⟩ := (hs.up hbw).at_ hlt
      have q0 := hcell 0 _ rfl
      have q1 := hcell 1 _ rfl
      have q2 := hcell 2 _ rfl
      have q3 := hcell 3 _ rfl
      have q4 := hcell 4 _ rfl
      rw [Nat.add_zero] at q0
      clear hcell
      generalize sumE a anyE (l.take m) = z at *
      have hw1 : IntKind.i64.wrap (z + l[m].cents) = z + l[m].cents := IntWalk.i64_in _ (by omega)
      have hw2 : IntKind.i64.wrap (z - l[m].cents) = z - l[m].cents := IntWalk.i64_in _ (by omega)
      cases hq : anyE l[m]
      · rw [hq] at hstp
        have HST : Hid (sumE a anyE (l.take (m + 1)) = z) := Lib.hid (by simpa using hstp)
        clear hstp hbd
        go_wp2_with fail
        refine (HF.out l[m] _ (by repeat' (first | (with_reducible exact Below.refl _ _) | (with_reducible assumption) | (with_reducible refine below_drewN ?_ _) | (with_reducible refine Below.drew ?_) | (with_reducible refine below_regrown_up _ _ ?_ ?_) | (with_reducible refine Below.alloc ?_ ?_ _) | (with_reducible refine Below.setCell ?_ ?_ _) | (with_reducible refine below_up ?_ ?_ (by assumption)) | (with_reducible exact Nat.le_refl _) | omega | (simp; done) | (simp; omega)))).mono ?_
        rintro e w1 ⟨rfl, hb1⟩; have hz1 := hb1.size; (try simp only [World.size_alloc, World.size_setCell, World.size_drew, size_drewN', size_grow, size_redrawn] at hz1); obtain ⟨hc1, hf1⟩ := bcellB (B := wr.heap.size + 1) hb1 (by first | omega | (simp only [World.size_alloc, World.size_setCell, World.size_drew, size_drewN', size_grow, size_redrawn]; omega))
        rw [hq]
        go_wp2_with fail
        go_roundw
        case rel =>
          refine ⟨m + 1, by omega, by go_num, by rw [HST.out], ?_⟩
          repeat' (first
            | (with_reducible exact Below.refl _ _)
            | (with_reducible assumption)
            | (with_reducible refine below_drewN ?_ _)
            | (with_reducible refine Below.drew ?_)
            | (with_reducible refine below_regrown_up _ _ ?_ ?_)
            | (with_reducible refine Below.alloc ?_ ?_ _)
            | (with_reducible refine Below.setCell ?_ ?_ _)
            | (with_reducible refine below_up ?_ ?_ (by assumption))
            | (with_reducible exact Nat.le_refl _)
            | omega
            | (simp; done)
            | (simp; omega))
        case measure => simp [intOf]; omega
      · rw [hq, if_pos rfl] at hstp
        unfold sgn at hstp
        by_cases hd : l[m].debit = a
        · have hdb : (l[m].debit == a) = true := by rw [hd]; simp
          rw [if_pos hd] at hstp
          have HST := Lib.hid hstp
          clear hstp hbd hd
          go_wp2_with fail
          refine (HF.out l[m] _ (by repeat' (first | (with_reducible exact Below.refl _ _) | (with_reducible assumption) | (with_reducible refine below_drewN ?_ _) | (with_reducible refine Below.drew ?_) | (with_reducible refine below_regrown_up _ _ ?_ ?_) | (with_reducible refine Below.alloc ?_ ?_ _) | (with_reducible refine Below.setCell ?_ ?_ _) | (with_reducible refine below_up ?_ ?_ (by assumption)) | (with_reducible exact Nat.le_refl _) | omega | (simp; done) | (simp; omega)))).mono ?_
          rintro e w1 ⟨rfl, hb1⟩; have hz1 := hb1.size; (try simp only [World.size_alloc, World.size_setCell, World.size_drew, size_drewN', size_grow, size_redrawn] at hz1); obtain ⟨hc1, hf1⟩ := bcellB (B := wr.heap.size + 1) hb1 (by first | omega | (simp only [World.size_alloc, World.size_setCell, World.size_drew, size_drewN', size_grow, size_redrawn]; omega))
          rw [hq]
          go_wp2_with fail
          go_roundw
          case rel =>
            refine ⟨m + 1, by omega, by go_num, by rw [HST.out], ?_⟩
            repeat' (first
              | (with_reducible exact Below.refl _ _)
              | (with_reducible assumption)
              | (with_reducible refine below_drewN ?_ _)
              | (with_reducible refine Below.drew ?_)
              | (with_reducible refine below_regrown_up _ _ ?_ ?_)
              | (with_reducible refine Below.alloc ?_ ?_ _)
              | (with_reducible refine Below.setCell ?_ ?_ _)
              | (with_reducible refine below_up ?_ ?_ (by assumption))
              | (with_reducible exact Nat.le_refl _)
              | omega
              | (simp; done)
              | (simp; omega))
          case measure => simp [intOf]; omega
        · have hdb : (l[m].debit == a) = false := by rw [beq_eq_false_iff_ne]; exact hd
          rw [if_neg hd] at hstp
          by_cases hk : l[m].credit = a
          · have hkb : (l[m].credit == a) = true := by rw [hk]; simp
            rw [if_pos hk] at hstp
            have HST : Hid (sumE a anyE (l.take (m + 1)) = z - l[m].cents) := Lib.hid (by rw [hstp]; omega)
            clear hstp hbd hd hk
            go_wp2_with fail
            refine (HF.out l[m] _ (by repeat' (first | (with_reducible exact Below.refl _ _) | (with_reducible assumption) | (with_reducible refine below_drewN ?_ _) | (with_reducible refine Below.drew ?_) | (with_reducible refine below_regrown_up _ _ ?_ ?_) | (with_reducible refine Below.alloc ?_ ?_ _) | (with_reducible refine Below.setCell ?_ ?_ _) | (with_reducible refine below_up ?_ ?_ (by assumption)) | (with_reducible exact Nat.le_refl _) | omega | (simp; done) | (simp; omega)))).mono ?_
            rintro e w1 ⟨rfl, hb1⟩; have hz1 := hb1.size; (try simp only [World.size_alloc, World.size_setCell, World.size_drew, size_drewN', size_grow, size_redrawn] at hz1); obtain ⟨hc1, hf1⟩ := bcellB (B := wr.heap.size + 1) hb1 (by first | omega | (simp only [World.size_alloc, World.size_setCell, World.size_drew, size_drewN', size_grow, size_redrawn]; omega))
            rw [hq]
            go_wp2_with fail
            go_roundw
            case rel =>
              refine ⟨m + 1, by omega, by go_num, by rw [HST.out], ?_⟩
              repeat' (first
                | (with_reducible exact Below.refl _ _)
                | (with_reducible assumption)
                | (with_reducible refine below_drewN ?_ _)
                | (with_reducible refine Below.drew ?_)
                | (with_reducible refine below_regrown_up _ _ ?_ ?_)
                | (with_reducible refine Below.alloc ?_ ?_ _)
                | (with_reducible refine Below.setCell ?_ ?_ _)
                | (with_reducible refine below_up ?_ ?_ (by assumption))
                | (with_reducible exact Nat.le_refl _)
                | omega
                | (simp; done)
                | (simp; omega))
            case measure => simp [intOf]; omega
          · have hkb : (l[m].credit == a) = false := by rw [beq_eq_false_iff_ne]; exact hk
            rw [if_neg hk] at hstp
            have HST : Hid (sumE a anyE (l.take (m + 1)) = z) := Lib.hid (by rw [hstp]; omega)
            clear hstp hbd hd hk
            go_wp2_with fail
            refine (HF.out l[m] _ (by repeat' (first | (with_reducible exact Below.refl _ _) | (with_reducible assumption) | (with_reducible refine below_drewN ?_ _) | (with_reducible refine Below.drew ?_) | (with_reducible refine below_regrown_up _ _ ?_ ?_) | (with_reducible refine Below.alloc ?_ ?_ _) | (with_reducible refine Below.setCell ?_ ?_ _) | (with_reducible refine below_up ?_ ?_ (by assumption)) | (with_reducible exact Nat.le_refl _) | omega | (simp; done) | (simp; omega)))).mono ?_
            rintro e w1 ⟨rfl, hb1⟩; have hz1 := hb1.size; (try simp only [World.size_alloc, World.size_setCell, World.size_drew, size_drewN', size_grow, size_redrawn] at hz1); obtain ⟨hc1, hf1⟩ := bcellB (B := wr.heap.size + 1) hb1 (by first | omega | (simp only [World.size_alloc, World.size_setCell, World.size_drew, size_drewN', size_grow, size_redrawn]; omega))
            rw [hq]
            go_wp2_with fail
            go_roundw
            case rel =>
              refine ⟨m + 1, by omega, by go_num, by rw [HST.out], ?_⟩
              repeat' (first
                | (with_reducible exact Below.refl _ _)
                | (with_reducible assumption)
                | (with_reducible refine below_drewN ?_ _)
                | (with_reducible refine Below.drew ?_)
                | (with_reducible refine below_regrown_up _ _ ?_ ?_)
                | (with_reducible refine Below.alloc ?_ ?_ _)
                | (with_reducible refine Below.setCell ?_ ?_ _)
                | (with_reducible refine below_up ?_ ?_ (by assumption))
                | (with_reducible exact Nat.le_refl _)
                | omega
                | (simp; done)
                | (simp; omega))
            case measure => simp [intOf]; omega
    · obtain rfl : m = l.length := by omega
      rw [List.take_of_length_le (Nat.le_refl _)]
      go_wp2_with fail
      go_ret
      exact ⟨ret_int rfl, hbw⟩
theorem sum_own0 (l : List Entry) (A : Option Addr) (c : Nat) (a : Int) (gb : Nat) (bb : Bill) (w : World) (hs : SlEnt w A l) (hl : l.length ≤ 6000) (hc : CentsOk l) (hf : ∀ (e : Entry) (W : World), Below w.heap.size w W → Calls Tryz.prog 124 #[e.v, .pointer (some ⟨gb, 0, none⟩)] W fun x w' => x = .returned (.bool ((ownE bb) e)) ∧ Below W.heap.size W w') :
    Calls Tryz.prog 105 #[.slice A l.length c, .int .i64 a, .func (.func 124) #[] #[.pointer (some ⟨gb, 0, none⟩)]] w fun e w' => e = .returned (.int .i64 (sumE a (ownE bb) l)) ∧ Below w.heap.size w w' := by
  have HF := Lib.hid hf
  clear hf
  go_enter Tryz.func105, Tryz.ntmps105
  go_wp2_with fail
  go_loopw [7, 12] (fun n i wr => ∃ m : Nat, m ≤ l.length ∧ i = .int .i64 m ∧ n = .int .i64 (sumE a (ownE bb) (l.take m)) ∧ Below w.heap.size w wr) (fun _ i _ => l.length - (intOf i).toNat)
  case atStart => exact ⟨0, by omega, rfl, rfl, Below.refl _ _⟩
  case round =>
    obtain ⟨m, hm, rfl, rfl, hbw⟩ := hrel
    have hbz := hbw.size
    by_cases hlt : m < l.length
    · have hx1 : (m : Int) < (l.length : Int) := by omega
      have hx4 : (0 : Int) ≤ (m : Int) := by omega
      have hstp := sumE_step (a := a) (q := (ownE bb)) hlt
      have hbd := sumE_bd (a := a) (q := (ownE bb)) (l := l.take m) (fun e he => hc e (List.mem_of_mem_take he))
      rw [List.length_take] at hbd
      have hce := hc _ (List.getElem_mem hlt)
      obtain ⟨b, off, rfl, hbl, hcell⟩ := (hs.up hbw).at_ hlt
      have q0 := hcell 0 _ rfl
      have q1 := hcell 1 _ rfl
      have q2 := hcell 2 _ rfl
      have q3 := hcell 3 _ rfl
      have q4 := hcell 4 _ rfl
      rw [Nat.add_zero] at q0
      clear hcell
      generalize sumE a (ownE bb) (l.take m) = z at *
      have hw1 : IntKind.i64.wrap (z + l[m].cents) = z + l[m].cents := IntWalk.i64_in _ (by omega)
      have hw2 : IntKind.i64.wrap (z - l[m].cents) = z - l[m].cents := IntWalk.i64_in _ (by omega)
      cases hq : (ownE bb) l[m]
      · rw [hq] at hstp
        have HST : Hid (sumE a (ownE bb) (l.take (m + 1)) = z) := Lib.hid (by simpa using hstp)
        clear hstp hbd
        go_wp2_with fail
        refine (HF.out l[m] _ (by repeat' (first | (with_reducible exact Below.refl _ _) | (with_reducible assumption) | (with_reducible refine below_drewN ?_ _) | (with_reducible refine Below.drew ?_) | (with_reducible refine below_regrown_up _ _ ?_ ?_) | (with_reducible refine Below.alloc ?_ ?_ _) | (with_reducible refine Below.setCell ?_ ?_ _) | (with_reducible refine below_up ?_ ?_ (by assumption)) | (with_reducible exact Nat.le_refl _) | omega | (simp; done) | (simp; omega)))).mono ?_
        rintro e w1 ⟨rfl, hb1⟩; have hz1 := hb1.size; (try simp only [World.size_alloc, World.size_setCell, World.size_drew, size_drewN', size_grow, size_redrawn] at hz1); obtain ⟨hc1, hf1⟩ := bcellB (B := wr.heap.size + 1) hb1 (by first | omega | (simp only [World.size_alloc, World.size_setCell, World.size_drew, size_drewN', size_grow, size_redrawn]; omega))
        rw [hq]
        go_wp2_with fail
        go_roundw
        case rel =>
          refine ⟨m + 1, by omega, by go_num, by rw [HST.out], ?_⟩
          repeat' (first
            | (with_reducible exact Below.refl _ _)
            | (with_reducible assumption)
            | (with_reducible refine below_drewN ?_ _)
            | (with_reducible refine Below.drew ?_)
            | (with_reducible refine below_regrown_up _ _ ?_ ?_)
            | (with_reducible refine Below.alloc ?_ ?_ _)
            | (with_reducible refine Below.setCell ?_ ?_ _)
            | (with_reducible refine below_up ?_ ?_ (by assumption))
            | (with_reducible exact Nat.le_refl _)
            | omega
            | (simp; done)
            | (simp; omega))
        case measure => simp [intOf]; omega
      · rw [hq, if_pos rfl] at hstp
        unfold sgn at hstp
        by_cases hd : l[m].debit = a
        · have hdb : (l[m].debit == a) = true := by rw [hd]; simp
          rw [if_pos hd] at hstp
          have HST := Lib.hid hstp
          clear hstp hbd hd
          go_wp2_with fail
          refine (HF.out l[m] _ (by repeat' (first | (with_reducible exact Below.refl _ _) | (with_reducible assumption) | (with_reducible refine below_drewN ?_ _) | (with_reducible refine Below.drew ?_) | (with_reducible refine below_regrown_up _ _ ?_ ?_) | (with_reducible refine Below.alloc ?_ ?_ _) | (with_reducible refine Below.setCell ?_ ?_ _) | (with_reducible refine below_up ?_ ?_ (by assumption)) | (with_reducible exact Nat.le_refl _) | omega | (simp; done) | (simp; omega)))).mono ?_
          rintro e w1 ⟨rfl, hb1⟩; have hz1 := hb1.size; (try simp only [World.size_alloc, World.size_setCell, World.size_drew, size_drewN', size_grow, size_redrawn] at hz1); obtain ⟨hc1, hf1⟩ := bcellB (B := wr.heap.size + 1) hb1 (by first | omega | (simp only [World.size_alloc, World.size_setCell, World.size_drew, size_drewN', size_grow, size_redrawn]; omega))
          rw [hq]
          go_wp2_with fail
          go_roundw
          case rel =>
            refine ⟨m + 1, by omega, by go_num, by rw [HST.out], ?_⟩
            repeat' (first
              | (with_reducible exact Below.refl _ _)
              | (with_reducible assumption)
              | (with_reducible refine below_drewN ?_ _)
              | (with_reducible refine Below.drew ?_)
              | (with_reducible refine below_regrown_up _ _ ?_ ?_)
              | (with_reducible refine Below.alloc ?_ ?_ _)
              | (with_reducible refine Below.setCell ?_ ?_ _)
              | (with_reducible refine below_up ?_ ?_ (by assumption))
              | (with_reducible exact Nat.le_refl _)
              | omega
              | (simp; done)
              | (simp; omega))
          case measure => simp [intOf]; omega
        · have hdb : (l[m].debit == a) = false := by rw [beq_eq_false_iff_ne]; exact hd
          rw [if_neg hd] at hstp
          by_cases hk : l[m].credit = a
          · have hkb : (l[m].credit == a) = true := by rw [hk]; simp
            rw [if_pos hk] at hstp
            have HST : Hid (sumE a (ownE bb) (l.take (m + 1)) = z - l[m].cents) := Lib.hid (by rw [hstp]; omega)
            clear hstp hbd hd hk
            go_wp2_with fail
            refine (HF.out l[m] _ (by repeat' (first | (with_reducible exact Below.refl _ _) | (with_reducible assumption) | (with_reducible refine below_drewN ?_ _) | (with_reducible refine Below.drew ?_) | (with_reducible refine below_regrown_up _ _ ?_ ?_) | (with_reducible refine Below.alloc ?_ ?_ _) | (with_reducible refine Below.setCell ?_ ?_ _) | (with_reducible refine below_up ?_ ?_ (by assumption)) | (with_reducible exact Nat.le_refl _) | omega | (simp; done) | (simp; omega)))).mono ?_
            rintro e w1 ⟨rfl, hb1⟩; have hz1 := hb1.size; (try simp only [World.size_alloc, World.size_setCell, World.size_drew, size_drewN', size_grow, size_redrawn] at hz1); obtain ⟨hc1, hf1⟩ := bcellB (B := wr.heap.size + 1) hb1 (by first | omega | (simp only [World.size_alloc, World.size_setCell, World.size_drew, size_drewN', size_grow, size_redrawn]; omega))
            rw [hq]
            go_wp2_with fail
            go_roundw
            case rel =>
              refine ⟨m + 1, by omega, by go_num, by rw [HST.out], ?_⟩
              repeat' (first
                | (with_reducible exact Below.refl _ _)
                | (with_reducible assumption)
                | (with_reducible refine below_drewN ?_ _)
                | (with_reducible refine Below.drew ?_)
                | (with_reducible refine below_regrown_up _ _ ?_ ?_)
                | (with_reducible refine Below.alloc ?_ ?_ _)
                | (with_reducible refine Below.setCell ?_ ?_ _)
                | (with_reducible refine below_up ?_ ?_ (by assumption))
                | (with_reducible exact Nat.le_refl _)
                | omega
                | (simp; done)
                | (simp; omega))
            case measure => simp [intOf]; omega
          · have hkb : (l[m].credit == a) = false := by rw [beq_eq_false_iff_ne]; exact hk
            rw [if_neg hk] at hstp
            have HST : Hid (sumE a (ownE bb) (l.take (m + 1)) = z) := Lib.hid (by rw [hstp]; omega)
            clear hstp hbd hd hk
            go_wp2_with fail
            refine (HF.out l[m] _ (by repeat' (first | (with_reducible exact Below.refl _ _) | (with_reducible assumption) | (with_reducible refine below_drewN ?_ _) | (with_reducible refine Below.drew ?_) | (with_reducible refine below_regrown_up _ _ ?_ ?_) | (with_reducible refine Below.alloc ?_ ?_ _) | (with_reducible refine Below.setCell ?_ ?_ _) | (with_reducible refine below_up ?_ ?_ (by assumption)) | (with_reducible exact Nat.le_refl _) | omega | (simp; done) | (simp; omega)))).mono ?_
            rintro e w1 ⟨rfl, hb1⟩; have hz1 := hb1.size; (try simp only [World.size_alloc, World.size_setCell, World.size_drew, size_drewN', size_grow, size_redrawn] at hz1); obtain ⟨hc1, hf1⟩ := bcellB (B := wr.heap.size + 1) hb1 (by first | omega | (simp only [World.size_alloc, World.size_setCell, World.size_drew, size_drewN', size_grow, size_redrawn]; omega))
            rw [hq]
            go_wp2_with fail
            go_roundw
            case rel =>
              refine ⟨m + 1, by omega, by go_num, by rw [HST.out], ?_⟩
              repeat' (first
                | (with_reducible exact Below.refl _ _)
                | (with_reducible assumption)
                | (with_reducible refine below_drewN ?_ _)
                | (with_reducible refine Below.drew ?_)
                | (with_reducible refine below_regrown_up _ _ ?_ ?_)
                | (with_reducible refine Below.alloc ?_ ?_ _)
                | (with_reducible refine Below.setCell ?_ ?_ _)
                | (with_reducible refine below_up ?_ ?_ (by assumption))
                | (with_reducible exact Nat.le_refl _)
                | omega
                | (simp; done)
                | (simp; omega))
            case measure => simp [intOf]; omega
    · obtain rfl : m = l.length := by omega
      rw [List.take_of_length_le (Nat.le_refl _)]
      go_wp2_with fail
      go_ret
      exact ⟨ret_int rfl, hbw⟩
end Go.Proofs.YtmlhoojcdidgkaaGreat

/-
  Package commission: the reference's word on statements and ledgers.
-/
namespace Go.Proofs.YtmlhoojcdidgkaaGreat
set_option linter.unusedSimpArgs false
set_option linter.unusedVariables false
open Go.RowKit Go.Maps
open Go.Sort (grow size_grow)

set_option maxHeartbeats 4000000
set_option maxRecDepth 100000
def eOk (own : List Bill) (es : List Entry) (acc : Int) (e : Entry) : Prop := (e.debit ≠ acc ∧ e.credit ≠ acc) ∨ e.ref ∈ stays own ∨ movedR es acc e.ref = 0
instance (own : List Bill) (es : List Entry) (acc : Int) (e : Entry) : Decidable (eOk own es acc e) := by unfold eOk; infer_instance
def movedL (own : List Bill) (es : List Entry) (acc : Int) : List Int := own.map fun b => movedR es acc b.stay
def agrees (want st : List Int) (own : List Bill) (es : List Entry) (acc : Int) : Bool := decide (want = st ∧ movedL own es acc = want ∧ ∀ e ∈ es, eOk own es acc e)
theorem agrees_iff {want st : List Int} {own : List Bill} {es : List Entry} {acc : Int} : agrees want st own es acc = true ↔ want = st ∧ movedL own es acc = want ∧ ∀ e ∈ es, eOk own es acc e := by unfold agrees; rw [decide_eq_true_eq]
theorem agrees_no {want st : List Int} {own : List Bill} {es : List Entry} {acc : Int} (h : ¬ (want = st ∧ movedL own es acc = want ∧ ∀ e ∈ es, eOk own es acc e)) : agrees want st own es acc = false := by
  cases ha : agrees want st own es acc
  · rfl
  · exact absurd (agrees_iff.1 ha) h
def agreesR (p d : Int) (l : List Bill) (ch : Int) (st : List Int) (es : List Entry) : Bool × Int :=
  if (stmtR p d l ch).2.2 ≠ 0 then (false, (stmtR p d l ch).2.2) else if ledOk es = false then (false, 1) else (agrees (stmtR p d l ch).1 st (ofCh l ch) es (700 + ch), 0)
theorem stmtR_cases (p d : Int) (l : List Bill) (ch : Int) : (∃ er, stmtR p d l ch = ([], 0, er) ∧ (er = 1 ∨ er = 2 ∨ er = 3)) ∨
    (l.length ≤ 3000 ∧ partOk p d = true ∧ billsOk l = true ∧ inB ch 0 29 = true ∧ (comms p d (ofCh l ch)).sum ≤ 1000000000 ∧ stmtR p d l ch = (comms p d (ofCh l ch), (comms p d (ofCh l ch)).sum, 0)) := by
  by_cases h0 : 3000 < l.length
  · exact .inl ⟨2, stmtR_many h0, by omega⟩
  · cases h1 : (!partOk p d || !billsOk l || !inB ch 0 29)
    · have h2 : (partOk p d = true ∧ billsOk l = true) ∧ inB ch 0 29 = true := by simpa using h1
      by_cases h3 : 1000000000 < (comms p d (ofCh l ch)).sum
      · exact .inl ⟨3, stmtR_far (by omega) h2.1.1 h2.1.2 h2.2 h3, by omega⟩
      · exact .inr ⟨by omega, h2.1.1, h2.1.2, h2.2, by omega, stmtR_ok (by omega) h2.1.1 h2.1.2 h2.2 h3⟩
    · exact .inl ⟨1, stmtR_no (by omega) h1, by omega⟩
def RetBE (r : Bool × Int) (e : Ending) : Prop := e = .returned (.tuple #[.bool r.1, .int .i64 r.2])
theorem movedL_at {own : List Bill} {es : List Entry} {acc : Int} {m : Nat} (h : m < own.length) : (movedL own es acc)[m]'(by unfold movedL; simpa using h) = movedR es acc own[m].stay := by unfold movedL; rw [List.getElem_map]
theorem stays_snoc {own : List Bill} {k : Nat} (h : k < own.length) (r : Int) : decide (r ∈ stays (own.take (k + 1))) = (decide (r ∈ stays (own.take k)) || (own[k].stay == r)) := by
  rw [stays_take h, Bool.eq_iff_iff, decide_eq_true_eq, Bool.or_eq_true, decide_eq_true_eq, beq_iff_eq, List.mem_append, List.mem_singleton]
  constructor
  · rintro (h | h)
    · exact .inl h
    · exact .inr h.symm
  · rintro (h | h)
    · exact .inl h
    · exact .inr h.symm
end Go.Proofs.YtmlhoojcdidgkaaGreat

/-
  The laws of package ledger: the head that each of them calls; their arguments.
-/
namespace Go.Proofs.YtmlhoojcdidgkaaGreat
set_option linter.unusedSimpArgs false
set_option linter.unusedVariables false
open Go.RowKit
open Go.Sort (grow size_grow)

set_option maxHeartbeats 4000000
set_option maxRecDepth 100000

/-- A list of entries and an error, written out. -/
def OutE (r : List Entry) (er : Int) (e : Ending) (w' : World) : Prop := ∃ A c, e = .returned (.tuple #[.slice A r.length c, .int .i64 er]) ∧ r.length ≤ c ∧ SlEnt w' A r
theorem post_lit {l r : List Entry} {x : Entry} {er : Int} (h : postR l x = (r, er)) (A : Option Addr) (c : Nat) (w : World) (hs : SlEnt w A l) (hl : l.length ≤ 140737488355328) :
    Calls Tryz.prog 21 #[.slice A l.length c, x.v] w fun e w' => OutE r er e w' ∧ Below w.heap.size w w' := by
  have := post_any l x A c w hs hl
  rw [h] at this
  exact this
theorem undo_lit {l r : List Entry} {ref day er : Int} (h : undoR l ref day = (r, er)) (A : Option Addr) (c : Nat) (w : World) (hs : SlEnt w A l) (hl : l.length ≤ 140737488355328) :
    Calls Tryz.prog 23 #[.slice A l.length c, .int .i64 ref, .int .i64 day] w fun e w' => OutE r er e w' ∧ Below w.heap.size w w' := by
  have := undo_any l A c ref day w hs hl
  rw [h] at this
  exact this
theorem bal_lit {l : List Entry} {a day n er : Int} (h : balR l a day = (n, er)) (A : Option Addr) (c : Nat) (w : World) (hs : SlEnt w A l) (hl : l.length ≤ 140737488355328) :
    Calls Tryz.prog 20 #[.slice A l.length c, .int .i64 a, .int .i64 day] w fun e w' => e = .returned (.tuple #[.int .i64 n, .int .i64 er]) ∧ Below w.heap.size w w' := by
  have := lbalance_any l A c a day w hs hl
  rw [h] at this
  exact this
def hE1 : Entry := ⟨3, 105, 302, 8000, 7⟩
def hE2 : Entry := ⟨4, 900, 105, 5000, 7⟩
def hE3 : Entry := ⟨3, 105, 302, 8000, 0⟩
def hU1 : Entry := ⟨6, 302, 105, 8000, 7⟩
def hU2 : Entry := ⟨6, 105, 900, 5000, 7⟩
def hZ : Entry := ⟨0, 0, 0, 0, 0⟩
theorem h28_1 : postR [] hE1 = ([hE1], 0) := by decide +kernel
theorem h28_2 : postR [hE1] hE2 = ([hE1, hE2], 0) := by decide +kernel
theorem h28_3 : balR [hE1, hE2] 105 3 = (8000, 0) := by decide +kernel
theorem h28_4 : balR [hE1, hE2] 105 4 = (3000, 0) := by decide +kernel
theorem h28_5 : kindR [hE1, hE2] 3 366 = (-8000, 0) := by decide +kernel
theorem h28_6 : undoR [hE1, hE2] 7 6 = ([hE1, hE2, hU1, hU2], 0) := by decide +kernel
theorem h28_7 : balR [hE1, hE2, hU1, hU2] 105 6 = (0, 0) := by decide +kernel
theorem h28_8 : undoR [hE1, hE2, hU1, hU2] 7 6 = ([], 4) := by decide +kernel
theorem h28_9 : postR [hE1, hE2] hE3 = ([], 6) := by decide +kernel
theorem h28_10 : ledOk [hE1, hE2, hU1, hU2] = true := by decide +kernel
theorem h28_11 : ledOk [hZ] = false := by decide +kernel
def undoneCells : Array Value := #[.int .i64 6, .int .i64 302, .int .i64 105, .int .i64 8000, .int .i64 7, .int .i64 6, .int .i64 105, .int .i64 900, .int .i64 5000, .int .i64 7]
theorem undoneSl (W : World) : SlEnt (W.alloc (.cells undoneCells 60)) (some ⟨W.heap.size, 0, none⟩) [hU1, hU2] :=
  sl_of_box (cs := undoneCells) (fun _ => rfl) (fun o => World.cell?_alloc_new W undoneCells 60 o) (by simp) rfl
theorem zeroSl (W : World) : SlEnt (W.alloc (.cells #[.int .i64 0, .int .i64 0, .int .i64 0, .int .i64 0, .int .i64 0] 60)) (some ⟨W.heap.size, 0, none⟩) [hZ] :=
  sl_of_box (cs := #[.int .i64 0, .int .i64 0, .int .i64 0, .int .i64 0, .int .i64 0]) (fun _ => rfl) (fun o => World.cell?_alloc_new W _ 60 o) (by simp) rfl

section
open Go.ChangeShapes Go.WideShapes Go.ChangeAt Go.Deep
theorem dec_ent (cs : List Value) (h : cs.length = 5) (hc : ∀ (i : Nat) (c : Value), cs[i]? = some c → isI64 c) : ∃ t : Entry, cs = t.cs := by
  match cs, h with
  | [a, b, c, d, e], _ =>
    obtain ⟨a, rfl, _⟩ := hc 0 _ rfl
    obtain ⟨b, rfl, _⟩ := hc 1 _ rfl
    obtain ⟨c, rfl, _⟩ := hc 2 _ rfl
    obtain ⟨d, rfl, _⟩ := hc 3 _ rfl
    obtain ⟨e, rfl, _⟩ := hc 4 _ rfl
    exact ⟨⟨a, b, c, d, e⟩, rfl⟩
variable {H : Type} {enc : TypeId × Value → H} {w : World} {r : Reach} {b0 : Nat} {v : Value} {d : DataW H} {p : List MemPlace}
theorem arg_ent (hv : Value.okWide Tryz.prog w r b0 60 v) (h : DataW.Trod enc Tryz.prog w 0 (fun _ => true) true 60 v d p) : ∃ t : Entry, v = t.v := by
  obtain ⟨cs, rfl, hsz, hc⟩ := open_ints (n := 4) Tryz.underlying60 (by kernel_rfl) hv h
  obtain ⟨l⟩ := cs
  obtain ⟨t, ht⟩ := dec_ent l (hsz.trans (by kernel_rfl)) (fun i c hi => hc i c (by simpa using hi))
  exact ⟨t, by rw [ht]; rfl⟩
theorem arg_ents (hv : Value.okWide Tryz.prog w r b0 45 v) (h : DataW.Trod enc Tryz.prog w 0 (fun _ => true) true 45 v d p) : ∃ (A : Option Addr) (l : List Entry) (c : Nat), v = .slice A l.length c ∧ SlEnt w A l ∧ l.length ≤ maxLen :=
  open_slice_ints (n := 4) (size := 5) (code := Entry.cs) Tryz.underlying45 (by kernel_rfl) (by kernel_rfl) (by decide) dec_ent hv h
end
end Go.Proofs.YtmlhoojcdidgkaaGreat

/-
  The law 'LedgerMatchesReference': the walk.
-/
namespace Go.Proofs.YtmlhoojcdidgkaaGreat
set_option linter.unusedSimpArgs false
set_option linter.unusedVariables false
open Go.RowKit
open Go.Sort (grow size_grow)

set_option maxHeartbeats 4000000
set_option maxRecDepth 100000

theorem postR_len (l : List Entry) (x : Entry) : (postR l x).1.length ≤ l.length + 1 := by
  rcases postR_cases l x with ⟨_, h⟩ | ⟨_, _, _, h⟩ | ⟨_, _, _, _, h⟩ | ⟨_, _, _, _, h⟩ <;> rw [h] <;> simp
theorem undoR_len (l : List Entry) (ref day : Int) : (undoR l ref day).1.length ≤ l.length + l.length := by
  have := openE_le l ref
  rcases undoR_cases l ref day with ⟨_, h⟩ | ⟨_, _, _, ⟨_, h⟩ | ⟨_, _, h⟩ | ⟨_, _, _, h⟩ | ⟨_, _, _, h⟩⟩ <;> rw [h] <;> simp
  omega
end Go.Proofs.YtmlhoojcdidgkaaGreat

/-
  The law 'LedgerZero': the walk.
-/
namespace Go.Proofs.YtmlhoojcdidgkaaGreat
set_option linter.unusedSimpArgs false
set_option linter.unusedVariables false
open Go.RowKit
open Go.Sort (grow size_grow)

set_option maxHeartbeats 4000000
set_option maxRecDepth 100000

theorem bal_split {p q r : Int → Bool} (h : ∀ a, p a = (q a || r a)) (hd : ∀ a, (q a && r a) = false) (l : List Entry) (day : Int) : bal p l day = bal q l day + bal r l day := by
  unfold bal mvs
  generalize upto l day = es
  induction es with
  | nil => rfl
  | cons e es ih =>
    rw [List.map_cons, List.map_cons, List.map_cons, List.sum_cons, List.sum_cons, List.sum_cons, ih]
    have h1 : mv p e = mv q e + mv r e := by
      unfold mv
      rw [h e.debit, h e.credit]
      have d1 := hd e.debit
      have d2 := hd e.credit
      cases hq1 : q e.debit <;> cases hr1 : r e.debit <;> cases hq2 : q e.credit <;> cases hr2 : r e.credit <;> simp [hq1, hr1, hq2, hr2] at d1 d2 ⊢ <;> omega
    rw [h1]
    omega
theorem bal_none {p : Int → Bool} (h : ∀ a, p a = false) (l : List Entry) (day : Int) : bal p l day = 0 := by
  unfold bal mvs
  generalize upto l day = es
  induction es with
  | nil => rfl
  | cons e es ih =>
    rw [List.map_cons, List.sum_cons, ih]
    unfold mv
    rw [h, h]
    simp
theorem bal_all {p : Int → Bool} (h : ∀ a, 100 ≤ a → a ≤ 999 → p a = true) {l : List Entry} (hl : ∀ e ∈ l, e.ok = true) (day : Int) : bal p l day = 0 := by
  have hu : ∀ e ∈ upto l day, e.ok = true := fun e he => hl e (upto_mem he)
  unfold bal mvs
  generalize upto l day = es at *
  induction es with
  | nil => rfl
  | cons e es ih =>
    rw [List.map_cons, List.sum_cons, ih (fun x hx => hu x (by simp [hx]))]
    obtain ⟨_, h1, h2, _⟩ := Entry.ok_iff.1 (hu e (by simp))
    unfold mv
    rw [h _ h1.1 h1.2, h _ h2.1 h2.2]
    simp
theorem bal_next {lo hi mid : Int} (h1 : lo ≤ mid + 1) (h2 : mid ≤ hi) (l : List Entry) (day : Int) : bal (fun a => inB a lo hi) l day = bal (fun a => inB a lo mid) l day + bal (fun a => inB a (mid + 1) hi) l day := by
  refine bal_split (fun a => ?_) (fun a => ?_) l day
  · rw [Bool.eq_iff_iff, Bool.or_eq_true, inB_iff, inB_iff, inB_iff]; omega
  · rw [Bool.and_eq_false_iff]
    by_cases ha : a ≤ mid
    · exact .inr (inB_f (by omega))
    · exact .inl (inB_f (by omega))
theorem kindR_ok {l : List Entry} {k day : Int} (h : ledOk l = true) (hk : 1 ≤ k ∧ k ≤ 9) (hd : 0 ≤ day ∧ day ≤ 366) : kindR l k day = (bal (ofKind k) l day, 0) := by
  rcases kindR_cases l k day with ⟨h1, _⟩ | ⟨_, _, _, h1⟩
  · rw [h, inB_t hk.1 hk.2, inB_t hd.1 hd.2] at h1; simp at h1
  · exact h1
theorem balR_ok {l : List Entry} {a day : Int} (h : ledOk l = true) (hk : 100 ≤ a ∧ a ≤ 999) (hd : 0 ≤ day ∧ day ≤ 366) : balR l a day = (bal (fun x => x == a) l day, 0) := by
  rcases balR_cases l a day with ⟨h1, _⟩ | ⟨_, _, _, h1⟩
  · rw [h, inB_t hk.1 hk.2, inB_t hd.1 hd.2] at h1; simp at h1
  · exact h1

end Go.Proofs.YtmlhoojcdidgkaaGreat

/-
  The law 'LedgerPosts': the walk.
-/
namespace Go.Proofs.YtmlhoojcdidgkaaGreat
set_option linter.unusedSimpArgs false
set_option linter.unusedVariables false
open Go.RowKit
open Go.Sort (grow size_grow)

set_option maxHeartbeats 4000000
set_option maxRecDepth 100000
theorem begun_false {l : List Entry} {day : Int} (h : begun l day = false) (hr : Rises l) : ∀ e ∈ l, e.day ≤ day := by
  intro e he
  obtain ⟨j, hj, rfl⟩ := List.getElem_of_mem he
  rw [begun_at (by omega), decide_eq_false_iff_not] at h
  have h1 : l[j].day ≤ l[l.length - 1].day := by
    rcases Nat.lt_or_ge j (l.length - 1) with h2 | h2
    · exact (List.pairwise_iff_getElem.1 hr) j (l.length - 1) hj (by omega) h2
    · have : j = l.length - 1 := by omega
      subst this
      exact Int.le_refl _
  omega
theorem ledOk_snoc {l : List Entry} {x : Entry} (h : ledOk l = true) (hx : x.ok = true) (hb : begun l x.day = false) (hl : l.length < 5000) : ledOk (l ++ [x]) = true := by
  obtain ⟨h1, h2, h3⟩ := ledOk_iff.1 h
  refine ledOk_iff.2 ⟨by simp; omega, fun e he => ?_, ?_⟩
  · rcases List.mem_append.1 he with he | he
    · exact h2 e he
    · simp at he
      subst he
      exact hx
  · unfold Rises
    rw [List.pairwise_append]
    refine ⟨h3, by simp, fun a ha b hb' => ?_⟩
    simp at hb'
    subst hb'
    exact begun_false hb h3 a ha
theorem bal_one (p : Int → Bool) (l : List Entry) (x : Entry) (d : Int) : bal p (l ++ [x]) d = bal p l d + if x.day ≤ d then mv p x else 0 := by
  rw [bal_append]
  congr 1
  unfold bal upto mvs
  by_cases hd : x.day ≤ d
  · rw [List.filter_cons, if_pos (by simpa using hd), if_pos hd]; simp
  · rw [List.filter_cons, if_neg (by simpa using hd), if_neg hd]; simp
end Go.Proofs.YtmlhoojcdidgkaaGreat

/-
  The law 'LedgerDays': the walk.
-/
namespace Go.Proofs.YtmlhoojcdidgkaaGreat
set_option linter.unusedSimpArgs false
set_option linter.unusedVariables false
open Go.RowKit
open Go.Sort (grow size_grow)

set_option maxHeartbeats 4000000
set_option maxRecDepth 100000
theorem ledOk_sub {l m : List Entry} (h : ledOk l = true) (hm : m.Sublist l) : ledOk m = true := by
  obtain ⟨h1, h2, h3⟩ := ledOk_iff.1 h
  have := hm.length_le
  exact ledOk_iff.2 ⟨by omega, fun e he => h2 e (hm.subset he), h3.sublist hm⟩
theorem upto_sub (l : List Entry) (d : Int) : (upto l d).Sublist l := List.filter_sublist
theorem bal_upto {p : Int → Bool} {l : List Entry} {d : Int} (h : ledOk l = true) : bal p (upto l d) 366 = bal p l d := by
  unfold bal
  congr 1
  unfold upto
  rw [List.filter_filter]
  refine List.filter_congr fun e he => ?_
  have := (Entry.ok_iff.1 ((ledOk_iff.1 h).2.1 e he)).1
  have h2 : decide (e.day ≤ 366) = true := by simpa using this.2
  rw [h2, Bool.true_and]
theorem upto_step {l : List Entry} {d : Int} {j : Nat} (h : j < l.length) : upto (l.take (j + 1)) d = if l[j].day ≤ d then upto (l.take j) d ++ [l[j]] else upto (l.take j) d := by
  unfold upto
  rw [List.take_succ_eq_append_getElem h, List.filter_append]
  by_cases hd : l[j].day ≤ d
  · rw [if_pos hd]; simp [hd]
  · rw [if_neg hd]; simp [hd]
open Go.ChangeShapes Go.WideShapes Go.ChangeAt Go.Deep in
theorem slice_room {H : Type} {enc : TypeId × Value → H} {P : Program} {w : World} {spare : Nat → Bool} {held : Bool} {r : Reach} {b0 : Nat} {t e : TypeId} {v : Value} {d : DataW H} {p : List MemPlace} (hs : P.underlying t = some (.slice e)) (hv : Value.okWide P w r b0 t v) (h : DataW.Trod enc P w 0 spare held t v d p) :
    ∀ (A : Option Addr) (n c : Nat), v = .slice A n c → n ≤ c ∧ (A = none → c = 0) := by
  obtain ⟨a, len, cap, rfl⟩ := okWide_slice hs hv
  obtain ⟨fuel, hf⟩ := h
  intro A n c hA
  injection hA with e1 e2 e3
  subst e1 e2 e3
  rcases open_slice hs hf with ⟨h1, _⟩ | ⟨a', len', cap', m, n', D, Pl, h1, _, hlc, hcm, hm, _, hel⟩
  · simp [Value.cells] at h1
    obtain ⟨rfl, rfl, rfl⟩ := h1
    exact ⟨Nat.le_refl _, fun _ => rfl⟩
  · simp [Value.cells] at h1
    obtain ⟨rfl, rfl, rfl⟩ := h1
    exact ⟨hlc, fun h => by cases h⟩
theorem Sl.nil_' {α : Type} {w : World} {B size : Nat} {enc : α → List Value} {A : Option Addr} : Sl w B size enc A ([] : List α) := fun h => absurd rfl h
end Go.Proofs.YtmlhoojcdidgkaaGreat
