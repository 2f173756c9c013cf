/-
  The laws of package rooms: their arguments.
-/
import Derived.Test.YtphapnooonjnmaaFrame
import Derived.Test.YtphapnooonjnmaaSpArgs
import Derived.Test.YtphapnooonjnmaaRmW1
import Derived.Test.YtphapnooonjnmaaTwo
import Derived.HandedShaped
namespace Go.Proofs.Ytphapnooonjnmaa
set_option linter.unusedSimpArgs false
set_option linter.unusedVariables false
open Go.ChangeShapes Go.WideShapes Go.ChangeAt Go.RowKit Go.Deep
set_option maxRecDepth 100000
section
variable {H : Type} {enc : TypeId × Value → H} {P : Program} {w : World} {spare : Nat → Bool} {held : Bool}
/-- A slice whose elements are read by a reader of one's own. -/
theorem trod_slice_of {t e : TypeId} {fuel : Nat} {cs : List Value} {x : DataW H × List MemPlace} {α : Type} {size : Nat} {code : α → List Value} (hs : P.underlying t = some (.slice e)) (hsz : P.cellsOf e = size) (hpos : 0 < size)
    (hdec : ∀ (n : Nat) (cs : List Value) (y : DataW H × List MemPlace), DataW.trod enc P w 0 spare held n e cs = some y → cs.length = size → ∃ z, cs = code z)
    (hf : DataW.trod enc P w 0 spare held fuel t cs = some x) : ∃ (A : Option Addr) (l : List α) (c : Nat), cs = [.slice A l.length c] ∧ Sl w w.heap.size size code A l ∧ l.length ≤ maxLen := by
  rcases open_slice hs hf with ⟨h1, _⟩ | ⟨a', len', cap', m, n', D, Pl, h1, _, hlc, hcm, hm, _, hel⟩
  · exact ⟨none, [], 0, h1, Sl.nil_, by simp⟩
  · have hlm : len' ≤ m := by rw [hm]; split <;> omega
    have hx : ∀ i : Fin len', ∃ x : α, ∀ j v, (code x)[j]? = some v → w.cell? (a'.add (i.val * size + j)) = some v := by
      intro i
      obtain ⟨cs', hc, ht⟩ := hel i.val (by omega)
      obtain ⟨_, hl, hcell⟩ := World.cells?_some hc
      obtain ⟨x, rfl⟩ := hdec n' cs' _ ht (hl.trans hsz)
      refine ⟨x, fun j v hj => ?_⟩
      have hjl : j < P.cellsOf e := by
        rw [← hl]
        exact (List.getElem?_eq_some_iff.1 hj).1
      have := hcell j hjl
      rw [hj, hsz] at this
      rw [← this]
      rw [Go.Deep.add_add]
    refine ⟨some a', List.ofFn fun i : Fin len' => (hx i).choose, cap', by simpa using h1, fun hne => ?_, by simp; omega⟩
    have hlen : 0 < len' := by
      rcases Nat.eq_zero_or_pos len' with h0 | h0
      · subst h0
        simp at hne
      · exact h0
    obtain ⟨cs', hc, ht⟩ := hel 0 (by omega)
    obtain ⟨_, hl, hcell⟩ := World.cells?_some hc
    have h0 := hcell 0 (by omega)
    rw [List.getElem?_eq_getElem (by omega)] at h0
    obtain ⟨b, off, spot⟩ := a'
    have hsp : spot = none := by
      cases spot with
      | none => rfl
      | some k =>
        unfold World.cell? at h0
        split at h0
        · simp [Addr.add] at h0
        · cases h0
    subst hsp
    have hb := World.block_lt_of_cell? w _ h0
    refine ⟨b, off, rfl, by simpa [Addr.add] using hb, fun k hk j v hj => ?_⟩
    have hk' : k < len' := by simpa using hk
    have := (hx ⟨k, hk'⟩).choose_spec j v (by simpa using hj)
    rw [add_plain, ← Nat.add_assoc] at this
    exact this
end
section
variable {H : Type} {enc : TypeId × Value → H} {w : World} {r : Reach} {b0 : Nat} {v : Value} {d : DataW H} {p : List MemPlace}
theorem trod_spans {fuel : Nat} {cs : List Value} {x : DataW H × List MemPlace} (h : DataW.trod enc Try.prog w 0 (fun _ => true) true fuel 23 cs = some x) : ∃ (A : Option Addr) (l : List Spn) (c : Nat), cs = [.slice A l.length c] ∧ SlSpn w A l ∧ l.length ≤ maxLen :=
  trod_slice_of (size := 2) (code := Spn.cs) Try.underlying23 (by kernel_rfl) (by decide) (fun n cs y hy hl => dec_spn cs hl (trod_ints 4 _ n cs y (by kernel_rfl) hy)) h
/-- A room as its cells are read. -/
abbrev RoomG (w : World) := { x : Room × Option Addr × Nat // SlSpn w x.2.1 x.1.blk ∧ -9223372036854775808 ≤ x.1.id ∧ x.1.id ≤ 9223372036854775807 }
def encG {w : World} (x : RoomG w) : List Value := x.1.1.cs x.1.2.1 x.1.2.2
theorem trod_room {fuel : Nat} {cs : List Value} {x : DataW H × List MemPlace} (h : DataW.trod enc Try.prog w 0 (fun _ => true) true fuel 25 cs = some x) : ∃ z : RoomG w, cs = encG z := by
  obtain ⟨xs, n', _, _, hlen, hxl, hf⟩ := DataW.trod_struct Try.underlying25 h
  have hl : cs.length = 6 := hlen.trans (by kernel_rfl)
  have hxl' : xs.length = 6 := hxl
  match cs, hl, xs, hxl' with
  | [c0, c1, c2, c3, c4, c5], _, [x0, x1, x2, x3, x4, x5], _ =>
    have hci : Try.prog.cellsOf 3 = 1 := by kernel_rfl
    have hcb : Try.prog.cellsOf 4 = 1 := by kernel_rfl
    have hcs : Try.prog.cellsOf 23 = 1 := by kernel_rfl
    have h0 : DataW.trod enc Try.prog w 0 (fun _ => true) true n' 3 [c0] = some x0 := by simpa [hci] using hf 0 _ rfl
    have h1 : DataW.trod enc Try.prog w 0 (fun _ => true) true n' 3 [c1] = some x1 := by simpa [hci] using hf 1 _ rfl
    have h2 : DataW.trod enc Try.prog w 0 (fun _ => true) true n' 3 [c2] = some x2 := by simpa [hci] using hf 2 _ rfl
    have h3 : DataW.trod enc Try.prog w 0 (fun _ => true) true n' 3 [c3] = some x3 := by simpa [hci] using hf 3 _ rfl
    have h4 : DataW.trod enc Try.prog w 0 (fun _ => true) true n' 4 [c4] = some x4 := by simpa [hcb] using hf 4 _ rfl
    have h5 : DataW.trod enc Try.prog w 0 (fun _ => true) true n' 23 [c5] = some x5 := by simpa [hcs] using hf 5 _ rfl
    obtain ⟨n0, e0, _, w0⟩ := DataW.trod_int Try.underlying3 h0
    obtain ⟨n1, e1, _, _⟩ := DataW.trod_int Try.underlying3 h1
    obtain ⟨n2, e2, _, _⟩ := DataW.trod_int Try.underlying3 h2
    obtain ⟨n3, e3, _, _⟩ := DataW.trod_int Try.underlying3 h3
    obtain ⟨b4, e4, _⟩ := DataW.trod_bool Try.underlying4 h4
    obtain ⟨A, l, c, e5, hs, _⟩ := trod_spans h5
    injection e0 with e0 _
    injection e1 with e1 _
    injection e2 with e2 _
    injection e3 with e3 _
    injection e4 with e4 _
    injection e5 with e5 _
    subst e0 e1 e2 e3 e4 e5
    exact ⟨⟨(⟨n0, n1, n2, n3, b4, l⟩, A, c), hs, (wf_int_iff _ _).1 w0⟩, rfl⟩
theorem arg_room (hv : Value.okWide Try.prog w r b0 25 v) (h : DataW.Trod enc Try.prog w 0 (fun _ => true) true 25 v d p) : ∃ (x : Room) (A : Option Addr) (c : Nat), v = x.v A c ∧ SlSpn w A x.blk ∧ -9223372036854775808 ≤ x.id ∧ x.id ≤ 9223372036854775807 := by
  obtain ⟨cs, rfl, hsz⟩ := okWide_struct Try.underlying25 hv
  obtain ⟨fuel, hf⟩ := h
  obtain ⟨⟨⟨x, A, c⟩, h1, h2⟩, he⟩ := trod_room hf
  refine ⟨x, A, c, ?_, h1, h2⟩
  simp only [Value.cells] at he
  obtain ⟨cs⟩ := cs
  simp only at he
  subst he
  rfl
theorem arg_rooms (hv : Value.okWide Try.prog w r b0 22 v) (h : DataW.Trod enc Try.prog w 0 (fun _ => true) true 22 v d p) : ∃ (A : Option Addr) (l : List Room) (c : Nat), v = .slice A l.length c ∧ SlRoom w A l ∧ (∀ x ∈ l, -9223372036854775808 ≤ x.id ∧ x.id ≤ 9223372036854775807) ∧ l.length ≤ maxLen := by
  obtain ⟨a, len, cap, rfl⟩ := okWide_slice Try.underlying22 hv
  obtain ⟨fuel, hf⟩ := h
  obtain ⟨A, L, c, e, hs, hl⟩ := trod_slice_of (size := 6) (code := encG) Try.underlying22 (by kernel_rfl) (by decide) (fun n cs y hy _ => trod_room hy) hf
  refine ⟨A, L.map (·.1.1), c, ?_, fun hne => ?_, fun x hx => ?_, by simpa using hl⟩
  · simpa [Value.cells] using e
  · obtain ⟨b, off, e, hb, hc⟩ := hs (by rintro rfl; exact hne rfl)
    refine ⟨b, off, e, hb, fun k hk => ?_⟩
    rw [List.length_map] at hk
    refine ⟨L[k].1.2.1, L[k].1.2.2, fun j v hv => hc k hk j v ?_, ?_⟩
    · rw [List.getElem_map] at hv
      exact hv
    · rw [List.getElem_map]
      exact L[k].2.1
  · obtain ⟨y, _, rfl⟩ := List.mem_map.1 hx
    exact y.2.2
end
theorem dec_span (l : List Value) (h : l.length = 2) (hc : ∀ (i : Nat) (c : Value), l[i]? = some c → isI64 c) : ∃ s : Spn, (Value.agg ⟨l⟩) = s.v := by
  match l, h with
  | [a, b], _ =>
    obtain ⟨x, rfl, _⟩ := hc 0 a rfl
    obtain ⟨y, rfl, _⟩ := hc 1 b rfl
    exact ⟨⟨x, y⟩, rfl⟩
section
variable {H : Type} {enc : TypeId × Value → H} {w : World} {r : Reach} {b0 : Nat} {v : Value} {d : DataW H} {p : List MemPlace}
theorem arg_span1 (hv : Value.okWide Try.prog w r b0 27 v) (h : DataW.Trod enc Try.prog w 0 (fun _ => true) true 27 v d p) : ∃ t : Spn, v = t.v := by
  obtain ⟨cs, rfl, hsz, hc⟩ := open_ints (n := 4) Try.underlying27 (by kernel_rfl) hv h
  obtain ⟨l⟩ := cs
  exact dec_span l (hsz.trans (by kernel_rfl)) (fun i c hi => hc i c (by simpa using hi))
end
theorem slice_room3 {H : Type} {enc : TypeId × Value → H} {P : Program} {w : World} {spare : Nat → Bool} {held : Bool} {r : Reach} {b0 : Nat} {t e : TypeId} {v : Value} {d : DataW H} {p : List MemPlace} (hs : P.underlying t = some (.slice e)) (hv : Value.okWide P w r b0 t v) (h : DataW.Trod enc P w 0 spare held t v d p) :
    ∀ (A : Option Addr) (n c : Nat), v = .slice A n c → n ≤ c ∧ (A = none → c = 0) := by
  obtain ⟨a, len, cap, rfl⟩ := okWide_slice hs hv
  obtain ⟨fuel, hf⟩ := h
  intro A n c hA
  injection hA with e1 e2 e3
  subst e1 e2 e3
  rcases open_slice hs hf with ⟨h1, _⟩ | ⟨a', len', cap', m, n', D, Pl, h1, _, hlc, hcm, hm, _, hel⟩
  · simp [Value.cells] at h1
    obtain ⟨rfl, rfl, rfl⟩ := h1
    exact ⟨Nat.le_refl _, fun _ => rfl⟩
  · simp [Value.cells] at h1
    obtain ⟨rfl, rfl, rfl⟩ := h1
    exact ⟨hlc, fun h => by cases h⟩
end Go.Proofs.Ytphapnooonjnmaa
