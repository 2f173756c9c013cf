/-
  Contracts of package tax and of its reference: lists of taxes.
-/
import Derived.Test.YthnncojbckifnaaTax2
namespace Go.Proofs.Ythnncojbckifnaa
set_option linter.unusedSimpArgs false
set_option linter.unusedVariables false
open Go.RowKit Go.Maps
open Go.Sort (grow size_grow)

set_option maxHeartbeats 2000000
set_option maxRecDepth 100000

def Tax.cs (t : Tax) : List Value := [.int .i64 t.id, .int .i64 t.place, .int .i64 t.night, .int .i64 t.n, .int .i64 t.d, .int .i64 t.first, .int .i64 t.round]
abbrev SlTax (w : World) (A : Option Addr) (l : List Tax) : Prop := Sl w w.heap.size 7 Tax.cs A l


theorem idx_tax_any (l : List Tax) (A : Option Addr) (c : Nat) (w : World) (hs : SlTax w A l) (hl : l.length ≤ 1000000000000) :
    Calls Try.prog 111 #[.slice A l.length c, .func (.func 106) #[] #[]] w fun e w' => e = .returned (.int .i64 (ixOf (fun t => !t.ok) l)) ∧ Below w.heap.size w w' := by
  go_enter Try.func111, Try.ntmps111
  go_wp2
  go_loopw [8] (fun k wr => ∃ m : Nat, m ≤ l.length ∧ k = .int .i64 m ∧ Hid (∀ j (h : j < l.length), j < m → (!l[j].ok) = false) ∧ Below w.heap.size w wr) (fun k _ => l.length - (intOf k).toNat)
  case atStart => exact ⟨0, by omega, rfl, Lib.hid (fun j _ h => absurd h (by omega)), Below.refl _ _⟩
  case round =>
    obtain ⟨m, hm, rfl, hn, hbw⟩ := hrel
    have hbz := hbw.size
    by_cases hlt : m < l.length
    · obtain ⟨b, off, rfl, hbl, hcell⟩ := (hs.below hbw).at_ hlt
      have q0 := hcell 0 _ rfl
      have q1 := hcell 1 _ rfl
      have q2 := hcell 2 _ rfl
      have q3 := hcell 3 _ rfl
      have q4 := hcell 4 _ rfl
      have q5 := hcell 5 _ rfl
      have q6 := hcell 6 _ rfl
      rw [Nat.add_zero] at q0
      have HC := Lib.hid hcell
      clear hcell
      go_wp2_with (go_at_call 106; refine (wrong_any l[m] _).mono ?_; rintro e w1 ⟨rfl, hb1⟩)
      · have hok : (!l[m].ok) = true := by first | assumption | simp [*]
        go_ret
        refine ⟨ret_int ?_, ?_⟩
        · exact (ixOf_found hlt hok hn.out).symm
        · repeat' (first
            | (with_reducible exact Below.refl _ _)
            | (with_reducible assumption)
            | (with_reducible refine below_drewN ?_ _)
            | (with_reducible refine Below.drew ?_)
            | (with_reducible refine below_regrown_up _ _ ?_ ?_)
            | (with_reducible refine Below.alloc ?_ ?_ _)
            | (with_reducible refine Below.setCell ?_ ?_ _)
            | (with_reducible refine below_up ?_ ?_ (by assumption))
            | (with_reducible exact Nat.le_refl _)
            | omega
            | (simp; done)
            | (simp; omega))
      · have hok : (!l[m].ok) = false := by first | assumption | simp [*]
        go_roundw
        case rel =>
          refine ⟨m + 1, by omega, by go_num, Lib.hid (fun j h hj => ?_), ?_⟩
          · by_cases e : j = m
            · subst e; exact hok
            · exact hn.out j h (by omega)
          · repeat' (first
              | (with_reducible exact Below.refl _ _)
              | (with_reducible assumption)
              | (with_reducible refine below_drewN ?_ _)
              | (with_reducible refine Below.drew ?_)
              | (with_reducible refine below_regrown_up _ _ ?_ ?_)
              | (with_reducible refine Below.alloc ?_ ?_ _)
              | (with_reducible refine Below.setCell ?_ ?_ _)
              | (with_reducible refine below_up ?_ ?_ (by assumption))
              | (with_reducible exact Nat.le_refl _)
              | omega
              | (simp; done)
              | (simp; omega))
        case measure => simp [intOf]; omega
    · obtain rfl : m = l.length := by omega
      go_wp2
      go_ret
      refine ⟨ret_int ?_, ?_⟩
      · exact (ixOf_none fun j h => hn.out j h h).symm
      · repeat' (first
          | (with_reducible exact Below.refl _ _)
          | (with_reducible assumption)
          | (with_reducible refine below_drewN ?_ _)
          | (with_reducible refine Below.drew ?_)
          | (with_reducible refine below_regrown_up _ _ ?_ ?_)
          | (with_reducible refine Below.alloc ?_ ?_ _)
          | (with_reducible refine Below.setCell ?_ ?_ _)
          | (with_reducible refine below_up ?_ ?_ (by assumption))
          | (with_reducible exact Nat.le_refl _)
          | omega
          | (simp; done)
          | (simp; omega))

theorem con_tax_any (l : List Tax) (A : Option Addr) (c : Nat) (w : World) (hs : SlTax w A l) (hl : l.length ≤ 1000000000000) :
    Calls Try.prog 105 #[.slice A l.length c, .func (.func 106) #[] #[]] w fun e w' => e = .returned (.bool (!l.all Tax.ok)) ∧ Below w.heap.size w w' := by
  have h := ixOf_any (fun t : Tax => !t.ok) l
  have h2 : (l.any fun t => !t.ok) = !l.all Tax.ok := by rw [List.not_all_eq_any_not]
  rw [h2] at h
  have H := Lib.hid h
  clear h h2
  go_enter Try.func105, Try.ntmps105
  go_wp2_with (go_at_call 111; refine (idx_tax_any l A c _ hs hl).mono ?_; rintro e w1 ⟨rfl, hb1⟩)
  go_ret
  refine ⟨ret_bool ?_, ?_⟩
  · exact H.out
  · repeat' (first
      | (with_reducible exact Below.refl _ _)
      | (with_reducible assumption)
      | (with_reducible refine below_drewN ?_ _)
      | (with_reducible refine Below.drew ?_)
      | (with_reducible refine below_regrown_up _ _ ?_ ?_)
      | (with_reducible refine Below.alloc ?_ ?_ _)
      | (with_reducible refine Below.setCell ?_ ?_ _)
      | (with_reducible refine below_up ?_ ?_ (by assumption))
      | (with_reducible exact Nat.le_refl _)
      | omega
      | (simp; done)
      | (simp; omega))

theorem keyed_int : Keyed Try.prog 3 := int_keyed Try.underlying3
theorem tvalid_any (l : List Tax) (A : Option Addr) (c : Nat) (w : World) (hs : SlTax w A l) (hl : l.length ≤ 1000000000000) :
    Calls Try.prog 93 #[.slice A l.length c] w fun e w' => e = .returned (.bool (taxesOk l)) ∧ Below w.heap.size w w' := by
  by_cases h50 : l.length ≤ 50
  · cases hall : l.all Tax.ok with
    | false =>
      have hv : taxesOk l = false := by unfold taxesOk; simp [hall]
      have HV := Lib.hid hv
      have h5 : (l.length : Int) ≤ 50 := by omega
      clear hv
      go_enter Try.func93, Try.ntmps93
      go_wp2_with (go_at_call 105; refine (con_tax_any l A c _ hs hl).mono ?_; rintro e w1 ⟨rfl, hb1⟩; rw [hall])
      go_ret
      refine ⟨ret_bool ?_, ?_⟩
      · rw [HV.out]
      · repeat' (first
          | (with_reducible exact Below.refl _ _)
          | (with_reducible assumption)
          | (with_reducible refine below_drewN ?_ _)
          | (with_reducible refine Below.drew ?_)
          | (with_reducible refine below_regrown_up _ _ ?_ ?_)
          | (with_reducible refine Below.alloc ?_ ?_ _)
          | (with_reducible refine Below.setCell ?_ ?_ _)
          | (with_reducible refine below_up ?_ ?_ (by assumption))
          | (with_reducible exact Nat.le_refl _)
          | omega
          | (simp; done)
          | (simp; omega))
    | true =>
      have hv : taxesOk l = decide ((l.map Tax.id).Nodup) := by unfold taxesOk; simp [hall, h50]
      have HV := Lib.hid hv
      have h5 : (l.length : Int) ≤ 50 := by omega
      have hwf : ∀ k (h : k < l.length), 1 ≤ l[k].id ∧ l[k].id ≤ 1000000 := fun k h => (Tax.ok_iff.1 (List.all_eq_true.1 hall _ (List.getElem_mem h))).2.2.1
      have HW := Lib.hid hwf
      clear hv hwf
      have hmm := @run_makeMap Try.prog
      go_enter Try.func93, Try.ntmps93
      go_wp2_with (go_at_call 105; refine (con_tax_any l A c _ hs hl).mono ?_; rintro e w1 ⟨rfl, hb1⟩; rw [hall])
      have hz1 := hb1.size
      go_loopw [16] (fun k wr => ∃ m : Nat, m ≤ l.length ∧ k = .int .i64 m ∧ wr.ownsMap Try.prog 3 (plainElem Try.prog 4) w1.heap.size m (idSet ((l.map Tax.id).take m)) ∧ Below w.heap.size w wr) (fun k _ => l.length - (intOf k).toNat)
      case atStart =>
        refine ⟨0, by omega, rfl, ?_, ?_⟩
        · exact World.ownsMap_made _ _ _ _
        · repeat' (first
            | (with_reducible exact Below.refl _ _)
            | (with_reducible assumption)
            | (with_reducible refine below_drewN ?_ _)
            | (with_reducible refine Below.drew ?_)
            | (with_reducible refine below_regrown_up _ _ ?_ ?_)
            | (with_reducible refine Below.alloc ?_ ?_ _)
            | (with_reducible refine Below.setCell ?_ ?_ _)
            | (with_reducible refine below_up ?_ ?_ (by assumption))
            | (with_reducible exact Nat.le_refl _)
            | omega
            | (simp; done)
            | (simp; omega))
      case round =>
        obtain ⟨m, hm, rfl, hown, hbw⟩ := hrel
        have hbz := hbw.size
        by_cases hlt : m < l.length
        · obtain ⟨b, off, rfl, hbl, hcell⟩ := (hs.below hbw).at_ hlt
          have q0 := hcell 0 _ rfl
          have q1 := hcell 1 _ rfl
          have q2 := hcell 2 _ rfl
          have q3 := hcell 3 _ rfl
          have q4 := hcell 4 _ rfl
          have q5 := hcell 5 _ rfl
          have q6 := hcell 6 _ rfl
          rw [Nat.add_zero] at q0
          have hid := HW.out m hlt
          have HC := Lib.hid hcell
          clear hcell
          go_wp2_with (at_mapUpdate; refine wpList_mapUpdate_own _ rfl _ _ _ 104 rfl 3 4 keyed_int Try.underlying104 _ w1.heap.size m _ rfl (hown.alloc _) (by unfold maxLen; omega) _ _ _ rfl rfl (keyOf_int_mk Try.underlying3 (WalkArith.wf_i64 (by omega))) _ [] (plainElem_bool Try.underlying4 true) ?_; intro w2 hown2 hgrow2)
          have hb2 : Below w.heap.size w w2 := (hbw.alloc hbz _).grown hgrow2 (by simp; omega) (fun j e => by cases e; exact hz1)
          go_roundw
          case rel =>
            refine ⟨m + 1, by omega, by go_num, ?_, hb2⟩
            have e : (l.map Tax.id).take (m + 1) = (l.map Tax.id).take m ++ [l[m].id] := by
              rw [List.take_succ_eq_append_getElem (by simpa using hlt)]
              simp
            rw [e, idSet_snoc]
            exact hown2
          case measure => simp [intOf]; omega
        · obtain rfl : m = l.length := by omega
          go_wp2_with (at_len; refine wpList_len_own _ rfl _ 104 rfl 3 4 Try.underlying104 _ w1.heap.size l.length _ rfl hown ?_)
          go_ret
          refine ⟨ret_bool ?_, ?_⟩
          · rw [HV.out]
            have h := idSet_size (l.map Tax.id)
            rw [List.length_map] at h
            rw [List.take_of_length_le (by simp)]
            first | exact h | (simpa using h)
          · repeat' (first
              | (with_reducible exact Below.refl _ _)
              | (with_reducible assumption)
              | (with_reducible refine below_drewN ?_ _)
              | (with_reducible refine Below.drew ?_)
              | (with_reducible refine below_regrown_up _ _ ?_ ?_)
              | (with_reducible refine Below.alloc ?_ ?_ _)
              | (with_reducible refine Below.setCell ?_ ?_ _)
              | (with_reducible refine below_up ?_ ?_ (by assumption))
              | (with_reducible exact Nat.le_refl _)
              | omega
              | (simp; done)
              | (simp; omega))
  · have hv : taxesOk l = false := by unfold taxesOk; simp [h50]
    have HV := Lib.hid hv
    have h5 : 50 < (l.length : Int) := by omega
    clear hv h50
    go_enter Try.func93, Try.ntmps93
    go_wp2_with fail
    go_ret
    refine ⟨ret_bool ?_, ?_⟩
    · rw [HV.out]
    · repeat' (first
        | (with_reducible exact Below.refl _ _)
        | (with_reducible assumption)
        | (with_reducible refine below_drewN ?_ _)
        | (with_reducible refine Below.drew ?_)
        | (with_reducible refine below_regrown_up _ _ ?_ ?_)
        | (with_reducible refine Below.alloc ?_ ?_ _)
        | (with_reducible refine Below.setCell ?_ ?_ _)
        | (with_reducible refine below_up ?_ ?_ (by assumption))
        | (with_reducible exact Nat.le_refl _)
        | omega
        | (simp; done)
        | (simp; omega))
end Go.Proofs.Ythnncojbckifnaa
