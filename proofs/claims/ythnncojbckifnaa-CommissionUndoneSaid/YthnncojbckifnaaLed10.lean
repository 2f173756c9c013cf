/-
  Contracts of package ledger: open entries; undoing.
-/
import Derived.Test.YthnncojbckifnaaLed9
namespace Go.Proofs.Ythnncojbckifnaa
set_option linter.unusedSimpArgs false
set_option linter.unusedVariables false
open Go.RowKit
open Go.Sort (grow size_grow)

set_option maxHeartbeats 4000000
set_option maxRecDepth 100000
theorem openStep_other {ref : Int} {out : List Entry} {e : Entry} (h : e.ref ≠ ref) : openStep ref out e = out := by unfold openStep; rw [if_pos h]
theorem openStep_none {ref : Int} {out : List Entry} {e : Entry} (h : e.ref = ref) (hn : lastIx (against e) out = none) : openStep ref out e = out ++ [e] := by unfold openStep; rw [if_neg (by simpa using h), hn]
theorem openStep_some {ref : Int} {out : List Entry} {e : Entry} {i : Nat} (h : e.ref = ref) (hn : lastIx (against e) out = some i) : openStep ref out e = out.eraseIdx i := by unfold openStep; rw [if_neg (by simpa using h), hn]

theorem open_any (l : List Entry) (A : Option Addr) (c : Nat) (ref : Int) (w : World) (hs : SlEnt w A l) (hl : l.length ≤ 5000) :
    Calls Try.prog 68 #[.slice A l.length c, .int .i64 ref] w fun e w' => (∃ v, e = .returned v ∧ OwnE w' w.heap.size v (openE l ref)) ∧ Below w.heap.size w w' := by
  go_enter Try.func68, Try.ntmps68
  go_wp2
  go_loopw [5, 11] (fun v i wr => ∃ m : Nat, m ≤ l.length ∧ i = .int .i64 m ∧ OwnE wr w.heap.size v (openE (l.take m) ref) ∧ Below w.heap.size w wr) (fun _ i _ => l.length - (intOf i).toNat)
  case atStart => exact ⟨0, by omega, rfl, OwnL.nil_, Below.refl _ _⟩
  case round =>
    obtain ⟨m, hm, rfl, hown, hbw⟩ := hrel
    have hbz := hbw.size
    by_cases hlt : m < l.length
    · have hx1 : (m : Int) < (l.length : Int) := by omega
      have hx4 : (0 : Int) ≤ (m : Int) := by omega
      obtain ⟨b, off, rfl, hbl, hcell⟩ := (hs.below hbw).at_ hlt
      have q0 := hcell 0 _ rfl
      have q1 := hcell 1 _ rfl
      have q2 := hcell 2 _ rfl
      have q3 := hcell 3 _ rfl
      have q4 := hcell 4 _ rfl
      rw [Nat.add_zero] at q0
      clear hcell
      have hsn := openE_snoc (ref := ref) hlt
      have hlen := openE_le (l.take m) ref
      rw [List.length_take] at hlen
      have hlen2 : (openE (l.take m) ref).length ≤ 5000 := by omega
      clear hlen
      generalize hout : openE (l.take m) ref = out at *
      clear hout
      have HSN := Lib.hid hsn
      clear hsn
      by_cases hr : l[m].ref = ref
      · have hrb : (l[m].ref != ref) = false := by simpa using hr
        have HR := Lib.hid hr
        clear hr
        obtain ⟨A2, c2, rfl, hc2, _, hsl2⟩ := hown.sl ent_len
        have hb0 : Below wr.heap.size wr (wr.alloc (.cells #[.int .i64 l[m].day, .int .i64 l[m].debit, .int .i64 l[m].credit, .int .i64 l[m].cents, .int .i64 l[m].ref] 63)) := (Below.refl _ _).alloc (Nat.le_refl _) _
        cases hix : lastIx (against l[m]) out with
        | none =>
          have hli := lixI_none hix
          have HN := Lib.hid (openStep_none HR.out hix)
          clear hix
          go_wp2_with (first
            | (go_at_call 90; refine (last1_any l[m] wr.heap.size out A2 c2 _ (hsl2.up hb0) (by omega) (news_new _ _ _ _ rfl) (by simp)).mono ?_; rintro e w1 ⟨rfl, hb1⟩; have hz1 := hb1.size; (try simp only [World.size_alloc, World.size_setCell, World.size_drew, size_drewN', size_grow, size_redrawn] at hz1); obtain ⟨hc1, hf1⟩ := bcellB (B := wr.heap.size + 1) hb1 (by first | omega | (simp only [World.size_alloc, World.size_setCell, World.size_drew, size_drewN', size_grow, size_redrawn]; omega)); rw [hli])
            | (at_builtin; go_loud (refine wpList_push _ rfl (.tmp 24) (.tmp 26) 31 63 rfl w.heap.size 5 40 Entry.cs elemEnt ent_len ent_one _ out rfl (((hown.alloc _).below hb1).alloc _) _ 1 l[m] rfl (news_new _ _ _ _ rfl) (by first | omega | (simp; done) | (simp; omega)) (by first | omega | (simp; done) | (simp; omega)) (by first | omega | (simp; done) | (simp; omega)) ?_); intro v2 w5 hown5 hgrow5))
          have hb5 : Below w.heap.size w w5 := below_push (by repeat' (first | (with_reducible exact Below.refl _ _) | (with_reducible assumption) | (with_reducible refine below_drewN ?_ _) | (with_reducible refine Below.drew ?_) | (with_reducible refine below_regrown_up _ _ ?_ ?_) | (with_reducible refine Below.alloc ?_ ?_ _) | (with_reducible refine Below.setCell ?_ ?_ _) | (with_reducible refine below_up ?_ ?_ (by assumption)) | (with_reducible exact Nat.le_refl _) | omega | (simp; done) | (simp; omega))) (((hown.alloc _).below hb1).alloc _) hgrow5 (by first | omega | (simp; done) | (simp; omega))
          go_roundw
          case rel =>
            refine ⟨m + 1, by omega, by go_num, ?_, hb5⟩
            rw [HSN.out, HN.out]
            exact hown5
          case measure => simp [intOf]; omega
        | some i =>
          have hli := lixI_some hix
          obtain ⟨hi, _, _⟩ := lastIx_some hix
          have HN := Lib.hid (openStep_some HR.out hix)
          clear hix
          obtain ⟨g, cap, hv, hgb, hgl⟩ := World.ownsRow.form hown (by omega)
          injection hv with hA2 _ hcap
          subst hA2 hcap
          have hneg : decide ((i : Int) < 0) = false := by simp
          go_wp2_with (first
            | (go_at_call 90; refine (last1_any l[m] wr.heap.size out _ c2 _ (hsl2.up hb0) (by omega) (news_new _ _ _ _ rfl) (by simp)).mono ?_; rintro e w1 ⟨rfl, hb1⟩; have hz1 := hb1.size; (try simp only [World.size_alloc, World.size_setCell, World.size_drew, size_drewN', size_grow, size_redrawn] at hz1); obtain ⟨hc1, hf1⟩ := bcellB (B := wr.heap.size + 1) hb1 (by first | omega | (simp only [World.size_alloc, World.size_setCell, World.size_drew, size_drewN', size_grow, size_redrawn]; omega)); rw [hli])
            | (go_at_call 92; refine (delete_any out g c2 i w.heap.size _ ((hown.alloc _).below hb1) hi (by omega)).mono ?_; rintro e w5 ⟨⟨rfl, hown5⟩, hgrow5⟩))
          have hb01 : Below w.heap.size w w1 := (by repeat' (first | (with_reducible exact Below.refl _ _) | (with_reducible assumption) | (with_reducible refine below_drewN ?_ _) | (with_reducible refine Below.drew ?_) | (with_reducible refine below_regrown_up _ _ ?_ ?_) | (with_reducible refine Below.alloc ?_ ?_ _) | (with_reducible refine Below.setCell ?_ ?_ _) | (with_reducible refine below_up ?_ ?_ (by assumption)) | (with_reducible exact Nat.le_refl _) | omega | (simp; done) | (simp; omega)))
          have hb5 : Below w.heap.size w w5 := hb01.grown hgrow5 hb01.size (fun k e => by cases e; exact hgb)
          go_roundw
          case rel =>
            refine ⟨m + 1, by omega, by go_num, ?_, hb5⟩
            rw [HSN.out, HN.out]
            exact hown5
          case measure => simp [intOf]; omega
      · have hrb : (l[m].ref != ref) = true := by simpa using hr
        have HR := Lib.hid hr
        clear hr
        go_wp2_with fail
        go_roundw
        case rel =>
          refine ⟨m + 1, by omega, by go_num, ?_, ?_⟩
          · rw [HSN.out, openStep_other HR.out]
            exact hown.alloc _
          · repeat' (first
              | (with_reducible exact Below.refl _ _)
              | (with_reducible assumption)
              | (with_reducible refine below_drewN ?_ _)
              | (with_reducible refine Below.drew ?_)
              | (with_reducible refine below_regrown_up _ _ ?_ ?_)
              | (with_reducible refine Below.alloc ?_ ?_ _)
              | (with_reducible refine Below.setCell ?_ ?_ _)
              | (with_reducible refine below_up ?_ ?_ (by assumption))
              | (with_reducible exact Nat.le_refl _)
              | omega
              | (simp; done)
              | (simp; omega))
        case measure => simp [intOf]; omega
    · obtain rfl : m = l.length := by omega
      rw [List.take_of_length_le (Nat.le_refl _)] at hown
      obtain ⟨A2, c2, rfl, _, _⟩ := hown.form
      go_wp2
      go_ret
      exact ⟨⟨_, rfl, hown⟩, hbw⟩
end Go.Proofs.Ythnncojbckifnaa
