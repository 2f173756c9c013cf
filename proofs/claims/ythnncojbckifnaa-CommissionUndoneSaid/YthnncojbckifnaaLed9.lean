/-
  Contracts of package ledger: open entries.
-/
import Derived.Test.YthnncojbckifnaaDel
namespace Go.Proofs.Ythnncojbckifnaa
set_option linter.unusedSimpArgs false
set_option linter.unusedVariables false
open Go.RowKit
open Go.Sort (grow size_grow)

set_option maxHeartbeats 4000000
set_option maxRecDepth 100000
theorem turned_any (x : Entry) (w : World) : Calls Try.prog 69 #[x.v] w fun e w' => e = .returned (turned x).v ∧ Below w.heap.size w w' := by
  go_enter Try.func69, Try.ntmps69
  go_wp2_with fail
  refine bodyPost_ret (v := (turned x).v) (by simp [results, Try.results69, go_sem, turned]) rfl ⟨rfl, ?_⟩
  repeat' (first
    | (with_reducible exact Below.refl _ _)
    | (with_reducible assumption)
    | (with_reducible refine below_drewN ?_ _)
    | (with_reducible refine Below.drew ?_)
    | (with_reducible refine below_regrown_up _ _ ?_ ?_)
    | (with_reducible refine Below.alloc ?_ ?_ _)
    | (with_reducible refine Below.setCell ?_ ?_ _)
    | (with_reducible refine below_up ?_ ?_ (by assumption))
    | (with_reducible exact Nat.le_refl _)
    | omega
    | (simp; done)
    | (simp; omega))
theorem open1_any (x y : Entry) (be : Nat) (w : World) (hc : ∀ (j : Nat) (u : Value), x.cs[j]? = some u → w.cell? ⟨be, j, none⟩ = some u) (hbe : be < w.heap.size) :
    Calls Try.prog 91 #[y.v, .pointer (some ⟨be, 0, none⟩)] w fun e w' => e = .returned (.bool (against x y)) ∧ Below w.heap.size w w' := by
  have q0 := hc 0 _ rfl
  have q1 := hc 1 _ rfl
  have q2 := hc 2 _ rfl
  have q3 := hc 3 _ rfl
  have q4 := hc 4 _ rfl
  have ha : against x y = (decide (y.credit = x.debit) && (decide (y.debit = x.credit) && (decide (y.cents = x.cents) && decide (y.ref = x.ref)))) := by
    unfold against
    rw [Bool.eq_iff_iff]
    simp
  have HA := Lib.hid ha
  clear ha hc
  go_enter Try.func91, Try.ntmps91
  go_wp2_with (go_at_call 69; refine (turned_any y _).mono ?_; unfold turned; rintro e w1 ⟨rfl, hb1⟩; have hz1 := hb1.size; (try simp only [World.size_alloc, World.size_setCell, World.size_drew, size_drewN', size_grow, size_redrawn] at hz1); obtain ⟨hc1, hf1⟩ := bcellB (B := be + 1) hb1 (by first | omega | (simp only [World.size_alloc, World.size_setCell, World.size_drew, size_drewN', size_grow, size_redrawn]; omega)); have lbe1 : be < w1.heap.size := (by omega))
  go_ret
  refine ⟨ret_bool ?_, ?_⟩
  · rw [HA.out]
    try simp
  · repeat' (first
      | (with_reducible exact Below.refl _ _)
      | (with_reducible assumption)
      | (with_reducible refine below_drewN ?_ _)
      | (with_reducible refine Below.drew ?_)
      | (with_reducible refine below_regrown_up _ _ ?_ ?_)
      | (with_reducible refine Below.alloc ?_ ?_ _)
      | (with_reducible refine Below.setCell ?_ ?_ _)
      | (with_reducible refine below_up ?_ ?_ (by assumption))
      | (with_reducible exact Nat.le_refl _)
      | omega
      | (simp; done)
      | (simp; omega))
def lixI {α : Type} (p : α → Bool) (l : List α) : Int := match lastIx p l with | some i => i | none => -1
theorem last1_any (x : Entry) (be : Nat) (l : List Entry) (A : Option Addr) (c : Nat) (w : World) (hs : SlEnt w A l) (hl : l.length ≤ 140737488355328) (hc : ∀ (j : Nat) (u : Value), x.cs[j]? = some u → w.cell? ⟨be, j, none⟩ = some u) (hbe : be < w.heap.size) :
    Calls Try.prog 90 #[.slice A l.length c, .func (.func 91) #[] #[.pointer (some ⟨be, 0, none⟩)]] w fun e w' => e = .returned (.int .i64 (lixI (against x) l)) ∧ Below w.heap.size w w' := by
  have HCC := Lib.hid hc
  clear hc
  go_enter Try.func90, Try.ntmps90
  go_wp2
  go_loopw [5] (fun i wr => ∃ k : Int, -1 ≤ k ∧ k < l.length ∧ i = .int .i64 k ∧ Hid (∀ j (h : j < l.length), k < j → against x l[j] = false) ∧ Below w.heap.size w wr) (fun i _ => (intOf i + 1).toNat)
  case atStart => exact ⟨_, by omega, by omega, rfl, Lib.hid (fun j h hj => by omega), Below.refl _ _⟩
  case round =>
    obtain ⟨k, hk1, hk2, rfl, hn, hbw⟩ := hrel
    have hbz := hbw.size
    by_cases hlt : 0 ≤ k
    · obtain ⟨m, rfl⟩ : ∃ m : Nat, k = (m : Int) := ⟨k.toNat, by omega⟩
      have hm : m < l.length := by omega
      obtain ⟨b, off, rfl, hbl, hcell⟩ := (hs.below hbw).at_ hm
      have q0 := hcell 0 _ rfl
      have q1 := hcell 1 _ rfl
      have q2 := hcell 2 _ rfl
      have q3 := hcell 3 _ rfl
      have q4 := hcell 4 _ rfl
      rw [Nat.add_zero] at q0
      have hcw : ∀ (j : Nat) (u : Value), x.cs[j]? = some u → wr.cell? ⟨be, j, none⟩ = some u := fun j u hu => (hbw.cell (p := ⟨be, j, none⟩) hbe).trans (HCC.out j u hu)
      have HCW := Lib.hid hcw
      clear hcell hcw
      have hx1 : (m : Int) < (l.length : Int) := by omega
      have hx4 : (0 : Int) ≤ (m : Int) := by omega
      cases hag : against x l[m] with
      | true =>
        go_wp2_with (go_at_call 91; refine (open1_any x l[m] be _ HCW.out (by omega)).mono ?_; rintro e w1 ⟨rfl, hb1⟩; rw [hag])
        go_ret
        refine ⟨ret_int ?_, ?_⟩
        · unfold lixI
          rw [lastIx_eq hm hag (fun j hj hjm => hn.out j hj (by omega))]
        · repeat' (first
            | (with_reducible exact Below.refl _ _)
            | (with_reducible assumption)
            | (with_reducible refine below_drewN ?_ _)
            | (with_reducible refine Below.drew ?_)
            | (with_reducible refine below_regrown_up _ _ ?_ ?_)
            | (with_reducible refine Below.alloc ?_ ?_ _)
            | (with_reducible refine Below.setCell ?_ ?_ _)
            | (with_reducible refine below_up ?_ ?_ (by assumption))
            | (with_reducible exact Nat.le_refl _)
            | omega
            | (simp; done)
            | (simp; omega))
      | false =>
        go_wp2_with (go_at_call 91; refine (open1_any x l[m] be _ HCW.out (by omega)).mono ?_; rintro e w1 ⟨rfl, hb1⟩; rw [hag])
        go_roundw
        case rel =>
          refine ⟨(m : Int) - 1, by omega, by omega, by go_num, Lib.hid (fun j h hj => ?_), ?_⟩
          · by_cases e : j = m
            · subst e; exact hag
            · exact hn.out j h (by omega)
          · repeat' (first
              | (with_reducible exact Below.refl _ _)
              | (with_reducible assumption)
              | (with_reducible refine below_drewN ?_ _)
              | (with_reducible refine Below.drew ?_)
              | (with_reducible refine below_regrown_up _ _ ?_ ?_)
              | (with_reducible refine Below.alloc ?_ ?_ _)
              | (with_reducible refine Below.setCell ?_ ?_ _)
              | (with_reducible refine below_up ?_ ?_ (by assumption))
              | (with_reducible exact Nat.le_refl _)
              | omega
              | (simp; done)
              | (simp; omega))
        case measure => simp [intOf] <;> omega
    · go_wp2
      go_ret
      refine ⟨ret_int ?_, hbw⟩
      unfold lixI
      have hnone : lastIx (against x) l = none := lastIx_none_iff.2 (fun y hy => by
        obtain ⟨j, hj, rfl⟩ := List.getElem_of_mem hy
        exact hn.out j hj (by omega))
      rw [hnone]
theorem openE_snoc {l : List Entry} {ref : Int} {m : Nat} (h : m < l.length) : openE (l.take (m + 1)) ref = openStep ref (openE (l.take m) ref) l[m] := by
  unfold openE
  rw [List.take_succ_eq_append_getElem h, List.foldl_append]
  rfl
theorem openE_len (ref : Int) : ∀ (l : List Entry) (out : List Entry), (l.foldl (openStep ref) out).length ≤ out.length + l.length
  | [], out => by simp
  | e :: l, out => by
    rw [List.foldl_cons, List.length_cons]
    have := openE_len ref l (openStep ref out e)
    have h2 : (openStep ref out e).length ≤ out.length + 1 := by
      unfold openStep
      split
      · omega
      · split
        · have := List.length_eraseIdx_le out (by assumption)
          omega
        · simp
    omega
theorem openE_le (l : List Entry) (ref : Int) : (openE l ref).length ≤ l.length := by
  have := openE_len ref l []
  simpa [openE] using this
theorem lixI_some {α : Type} {p : α → Bool} {l : List α} {i : Nat} (h : lastIx p l = some i) : lixI p l = i := by unfold lixI; rw [h]
theorem lixI_none {α : Type} {p : α → Bool} {l : List α} (h : lastIx p l = none) : lixI p l = -1 := by unfold lixI; rw [h]
end Go.Proofs.Ythnncojbckifnaa
