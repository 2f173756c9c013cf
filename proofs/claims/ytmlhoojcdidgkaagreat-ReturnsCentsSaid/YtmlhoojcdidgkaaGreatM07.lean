/-
  Texts, one behind the other: Led2, Own.
-/
import Derived.Test.YtmlhoojcdidgkaaGreatM06
import Derived.Maps.AppendAt
import Derived.Test.YtmlhoojcdidgkaaGreatM01
import Derived.Deep.AppendLies
import Derived.Laws.OwnMore
/-
  Contracts of package ledger and of its reference: lists of entries.
-/
namespace Go.Proofs.YtmlhoojcdidgkaaGreat
set_option linter.unusedSimpArgs false
set_option linter.unusedVariables false
open Go.RowKit
open Go.Sort (grow size_grow)

set_option maxHeartbeats 2000000
set_option maxRecDepth 100000

theorem idx_ent_any (l : List Entry) (A : Option Addr) (c : Nat) (w : World) (hs : SlEnt w A l) (hl : l.length ≤ 140737488355328) :
    Calls Tryz.prog 97 #[.slice A l.length c, .func (.func 67) #[] #[]] w fun e w' => e = .returned (.int .i64 (ixOf (fun t => !t.ok) l)) ∧ Below w.heap.size w w' := by
  go_enter Tryz.func97, Tryz.ntmps97
  go_wp2
  go_loopw [8] (fun k wr => ∃ m : Nat, m ≤ l.length ∧ k = .int .i64 m ∧ Hid (∀ j (h : j < l.length), j < m → (!l[j].ok) = false) ∧ Below w.heap.size w wr) (fun k _ => l.length - (intOf k).toNat)
  case atStart => exact ⟨0, by omega, rfl, Lib.hid (fun j _ h => absurd h (by omega)), Below.refl _ _⟩
  case round =>
    obtain ⟨m, hm, rfl, hn, hbw⟩ := hrel
    have hbz := hbw.size
    by_cases hlt : m < l.length
    · obtain ⟨b, off, rfl, hbl, hcell⟩ := (hs.below hbw).at_ hlt
      have q0 := hcell 0 _ rfl
      have q1 := hcell 1 _ rfl
      have q2 := hcell 2 _ rfl
      have q3 := hcell 3 _ rfl
      have q4 := hcell 4 _ rfl
      rw [Nat.add_zero] at q0
      have HC := Lib.hid hcell
      clear hcell
      go_wp2_with (go_at_call 67; refine (valid1_any l[m] _).mono ?_; rintro e w1 ⟨rfl, hb1⟩)
      · have hok : (!l[m].ok) = true := by first | assumption | simp [*]
        go_ret
        refine ⟨ret_int ?_, ?_⟩
        · exact (ixOf_found hlt hok hn.out).symm
        · repeat' (first
            | (with_reducible exact Below.refl _ _)
            | (with_reducible assumption)
            | (with_reducible refine below_drewN ?_ _)
            | (with_reducible refine Below.drew ?_)
            | (with_reducible refine below_regrown_up _ _ ?_ ?_)
            | (with_reducible refine Below.alloc ?_ ?_ _)
            | (with_reducible refine Below.setCell ?_ ?_ _)
            | (with_reducible refine below_up ?_ ?_ (by assumption))
            | (with_reducible exact Nat.le_refl _)
            | omega
            | (simp; done)
            | (simp; omega))
      · have hok : (!l[m].ok) = false := by first | assumption | simp [*]
        go_roundw
        case rel =>
          refine ⟨m + 1, by omega, by go_num, Lib.hid (fun j h hj => ?_), ?_⟩
          · by_cases e : j = m
            · subst e; exact hok
            · exact hn.out j h (by omega)
          · repeat' (first
              | (with_reducible exact Below.refl _ _)
              | (with_reducible assumption)
              | (with_reducible refine below_drewN ?_ _)
              | (with_reducible refine Below.drew ?_)
              | (with_reducible refine below_regrown_up _ _ ?_ ?_)
              | (with_reducible refine Below.alloc ?_ ?_ _)
              | (with_reducible refine Below.setCell ?_ ?_ _)
              | (with_reducible refine below_up ?_ ?_ (by assumption))
              | (with_reducible exact Nat.le_refl _)
              | omega
              | (simp; done)
              | (simp; omega))
        case measure => simp [intOf]; omega
    · obtain rfl : m = l.length := by omega
      go_wp2
      go_ret
      refine ⟨ret_int ?_, ?_⟩
      · exact (ixOf_none fun j h => hn.out j h h).symm
      · repeat' (first
          | (with_reducible exact Below.refl _ _)
          | (with_reducible assumption)
          | (with_reducible refine below_drewN ?_ _)
          | (with_reducible refine Below.drew ?_)
          | (with_reducible refine below_regrown_up _ _ ?_ ?_)
          | (with_reducible refine Below.alloc ?_ ?_ _)
          | (with_reducible refine Below.setCell ?_ ?_ _)
          | (with_reducible refine below_up ?_ ?_ (by assumption))
          | (with_reducible exact Nat.le_refl _)
          | omega
          | (simp; done)
          | (simp; omega))

theorem con_ent_any (l : List Entry) (A : Option Addr) (c : Nat) (w : World) (hs : SlEnt w A l) (hl : l.length ≤ 140737488355328) :
    Calls Tryz.prog 70 #[.slice A l.length c, .func (.func 67) #[] #[]] w fun e w' => e = .returned (.bool (!l.all Entry.ok)) ∧ Below w.heap.size w w' := by
  have h := ixOf_any (fun t : Entry => !t.ok) l
  have h2 : (l.any fun t => !t.ok) = !l.all Entry.ok := by rw [List.not_all_eq_any_not]
  rw [h2] at h
  have H := Lib.hid h
  clear h h2
  go_enter Tryz.func70, Tryz.ntmps70
  go_wp2_with (go_at_call 97; refine (idx_ent_any l A c _ hs hl).mono ?_; rintro e w1 ⟨rfl, hb1⟩)
  go_ret
  refine ⟨ret_bool ?_, ?_⟩
  · exact H.out
  · repeat' (first
      | (with_reducible exact Below.refl _ _)
      | (with_reducible assumption)
      | (with_reducible refine below_drewN ?_ _)
      | (with_reducible refine Below.drew ?_)
      | (with_reducible refine below_regrown_up _ _ ?_ ?_)
      | (with_reducible refine Below.alloc ?_ ?_ _)
      | (with_reducible refine Below.setCell ?_ ?_ _)
      | (with_reducible refine below_up ?_ ?_ (by assumption))
      | (with_reducible exact Nat.le_refl _)
      | omega
      | (simp; done)
      | (simp; omega))

theorem sorted_any (l : List Entry) (A : Option Addr) (c : Nat) (w : World) (r : Bool) (hs : SlEnt w A l) (hl : l.length ≤ 140737488355328)
    (hr : Hid (r = true ↔ ∀ i (h : i + 1 < l.length), 0 ≤ wrap64 (l[i + 1].day - l[i].day))) :
    Calls Tryz.prog 68 #[.slice A l.length c, .func (.func 69) #[] #[]] w fun e w' => e = .returned (.bool r) ∧ Below w.heap.size w w' := by
  go_enter Tryz.func68, Tryz.ntmps68
  go_wp2
  go_loopw [5] (fun i wr => ∃ k : Int, -1 ≤ k ∧ k < l.length ∧ i = .int .i64 k ∧ Hid (∀ j (h : j + 1 < l.length), k ≤ j → 0 ≤ wrap64 (l[j + 1].day - l[j].day)) ∧ Below w.heap.size w wr) (fun i _ => (intOf i + 1).toNat)
  case atStart => exact ⟨_, by omega, by omega, rfl, Lib.hid (fun j h hj => by omega), Below.refl _ _⟩
  case round =>
    obtain ⟨k, hk1, hk2, rfl, hn, hbw⟩ := hrel
    have hbz := hbw.size
    by_cases hlt : 0 < k
    · obtain ⟨n, rfl⟩ : ∃ n : Nat, k = (n : Int) := ⟨k.toNat, by omega⟩
      obtain ⟨m, hmn⟩ : ∃ m : Nat, n = m + 1 := ⟨n - 1, by omega⟩
      have hm1 : m + 1 < l.length := by omega
      have hm0 : m < l.length := by omega
      obtain ⟨b, off, rfl, hbl, hcell⟩ := (hs.below hbw).at_ (k := m) hm0
      have hcell2 := ((hs.below hbw).cells (k := m + 1) hm1).2
      have q0 := hcell 0 _ rfl
      have q1 := hcell 1 _ rfl
      have q2 := hcell 2 _ rfl
      have q3 := hcell 3 _ rfl
      have q4 := hcell 4 _ rfl
      rw [Nat.add_zero] at q0
      have p0 := hcell2 0 _ rfl
      have p1 := hcell2 1 _ rfl
      have p2 := hcell2 2 _ rfl
      have p3 := hcell2 3 _ rfl
      have p4 := hcell2 4 _ rfl
      rw [Nat.add_zero] at p0
      have e5 : off + (m + 1) * 5 = off + n * 5 := by rw [hmn]
      rw [e5] at p0 p1 p2 p3 p4
      clear e5
      clear hcell hcell2
      have hx0 : (0 : Int) ≤ m := by omega
      have hx1 : (n : Int) < l.length := hk2
      have hx2 : (m : Int) < l.length := by omega
      have hx3 : (0 : Int) ≤ n := by omega
      have hw1 : IntKind.i64.wrap ((n : Int) - 1) = m := by rw [IntWalk.i64_in _ (by omega)]; omega
      have HM := Lib.hid hmn
      clear hmn
      go_wp2_with fail
      have hgr := regrown_cells wr (B := w.heap.size) (by omega)
      refine wp_region_quiet_below (by kernel_rfl) (by kernel_rfl) ?_
      repeat (quiet_step ((go_at_call 69; exact quiet_b (valid2_any l[m + 1] l[m] _))))
      refine wpQuiet_nil ?_
      intro _ hw'
      obtain ⟨⟨dq, osq⟩, hw''⟩ := hw'
      subst hw''
      have hb3 := below_regrown wr dq osq
      clear hgr
      generalize grow (redrawn wr dq) osq = w3 at hb3 ⊢
      have hz3 := hb3.size
      (try simp only [World.size_alloc, World.size_setCell, World.size_drew, size_drewN', size_grow, size_redrawn] at hz3)
      obtain ⟨hc3, hf3⟩ := bcellB (B := w.heap.size) hb3 (by first | omega | (simp only [World.size_alloc, World.size_setCell, World.size_drew, size_drewN', size_grow, size_redrawn]; omega))
      go_wp2_with fail
      · have hok : wrap64 (l[m + 1].day - l[m].day) < 0 := by assumption
        go_ret
        refine ⟨ret_bool ?_, ?_⟩
        · cases r with
          | false => rfl
          | true => exact absurd hok (by have := hr.out.1 rfl m hm1; omega)
        · repeat' (first
            | (with_reducible exact Below.refl _ _)
            | (with_reducible assumption)
            | (with_reducible refine below_drewN ?_ _)
            | (with_reducible refine Below.drew ?_)
            | (with_reducible refine below_regrown_up _ _ ?_ ?_)
            | (with_reducible refine Below.alloc ?_ ?_ _)
            | (with_reducible refine Below.setCell ?_ ?_ _)
            | (with_reducible refine below_up ?_ ?_ (by assumption))
            | (with_reducible exact Nat.le_refl _)
            | omega
            | (simp; done)
            | (simp; omega))
      · have hok : 0 ≤ wrap64 (l[m + 1].day - l[m].day) := by first | assumption | omega
        go_roundw
        case rel =>
          have hmn := HM.out
          refine ⟨m, by omega, by omega, rfl, Lib.hid (fun j h hj => ?_), ?_⟩
          · by_cases e : j = m
            · subst e; exact hok
            · exact hn.out j h (by omega)
          · repeat' (first
              | (with_reducible exact Below.refl _ _)
              | (with_reducible assumption)
              | (with_reducible refine below_drewN ?_ _)
              | (with_reducible refine Below.drew ?_)
              | (with_reducible refine below_regrown_up _ _ ?_ ?_)
              | (with_reducible refine Below.alloc ?_ ?_ _)
              | (with_reducible refine Below.setCell ?_ ?_ _)
              | (with_reducible refine below_up ?_ ?_ (by assumption))
              | (with_reducible exact Nat.le_refl _)
              | omega
              | (simp; done)
              | (simp; omega))
        case measure => have := HM.out; simp [intOf]; omega
    · go_wp2
      go_ret
      refine ⟨ret_bool ?_, ?_⟩
      · exact (hr.out.2 (fun i h => hn.out i h (by omega))).symm
      · repeat' (first
          | (with_reducible exact Below.refl _ _)
          | (with_reducible assumption)
          | (with_reducible refine below_drewN ?_ _)
          | (with_reducible refine Below.drew ?_)
          | (with_reducible refine below_regrown_up _ _ ?_ ?_)
          | (with_reducible refine Below.alloc ?_ ?_ _)
          | (with_reducible refine Below.setCell ?_ ?_ _)
          | (with_reducible refine below_up ?_ ?_ (by assumption))
          | (with_reducible exact Nat.le_refl _)
          | omega
          | (simp; done)
          | (simp; omega))
end Go.Proofs.YtmlhoojcdidgkaaGreat

/-
  A slice of the call's own that holds a list of data; append of one element, and of another slice.
-/
namespace Go.Proofs.YtmlhoojcdidgkaaGreat
set_option linter.unusedSimpArgs false
set_option linter.unusedVariables false
open Go.RowKit

/-- What is to be known of an element's type. -/
def Elem (P : Program) (t e : TypeId) (size bytes : Nat) : Prop := P.underlying t = some (.slice e) ∧ ∃ i z, P.info? e = some i ∧ i.zero = some z ∧ i.size = size ∧ i.bytes = bytes ∧ z.cells.size = size ∧ 0 < size
theorem elem_mk {P : Program} {t e : TypeId} {size bytes : Nat} (ht : P.underlying t = some (.slice e)) (h : (match P.info? e with | some i => (match i.zero with | some z => decide (i.size = size) && decide (i.bytes = bytes) && decide (z.cells.size = size) && decide (0 < size) | none => false) | none => false) = true) : Elem P t e size bytes := by
  refine ⟨ht, ?_⟩
  cases hi : P.info? e with
  | none => rw [hi] at h; cases h
  | some i =>
    rw [hi] at h
    simp only at h
    cases hz : i.zero with
    | none => rw [hz] at h; cases h
    | some z =>
      rw [hz] at h
      simp only [Bool.and_eq_true, decide_eq_true_eq] at h
      exact ⟨i, z, rfl, hz, h.1.1.1, h.1.1.2, h.1.2, h.2⟩

def OwnL {α : Type} (w : World) (base : Nat) (e : TypeId) (size : Nat) (enc : α → List Value) (v : Value) (L : List α) : Prop := w.ownsRow base e size v L.length (L.flatMap enc)
section
variable {α : Type} {w w' : World} {base size : Nat} {e : TypeId} {enc : α → List Value} {v : Value} {L : List α}
theorem OwnL.nil_ : OwnL w base e size enc (.slice none 0 0) ([] : List α) := World.ownsRow_nil _ _ _ _
theorem OwnL.below (h : OwnL w base e size enc v L) (hb : Below w.heap.size w w') : OwnL w' base e size enc v L := row_below h hb
theorem OwnL.alloc (h : OwnL w base e size enc v L) (o : Obj) : OwnL (w.alloc o) base e size enc v L := World.ownsRow.alloc h o
theorem OwnL.drew (h : OwnL w base e size enc v L) : OwnL w.drew base e size enc v L := h
theorem OwnL.drewN (h : OwnL w base e size enc v L) (n : Nat) : OwnL (w.drewN n) base e size enc v L := h
theorem OwnL.form (h : OwnL w base e size enc v L) : ∃ A c, v = .slice A L.length c ∧ L.length ≤ c ∧ c ≤ maxLen := by
  rcases h.2 with ⟨rfl, h0⟩ | ⟨g, cap, cur, rfl, hb, hg, h1, h2, h3, h4⟩
  · exact ⟨none, 0, by rw [h0], by omega, by unfold maxLen; omega⟩
  · exact ⟨_, cap, rfl, h1, h2⟩
theorem OwnL.lt (h : OwnL w base e size enc v L) : ∀ k, v.ownBlock = some k → base ≤ k ∧ k < w.heap.size := World.ownsRow.lt h
theorem OwnL.more {base' : Nat} (h : OwnL w base e size enc v L) (hb : base' ≤ base) : OwnL w base' e size enc v L := by
  refine ⟨h.1, ?_⟩
  rcases h.2 with h1 | ⟨g, cap, cur, h0, hg, r⟩
  · exact .inl h1
  · exact .inr ⟨g, cap, cur, h0, Nat.le_trans hb hg, r⟩
theorem flat_len (he : ∀ x, (enc x).length = size) : ∀ L : List α, (L.flatMap enc).length = L.length * size
  | [] => by simp
  | x :: L => by rw [List.flatMap_cons, List.length_append, he, flat_len he L, List.length_cons, Nat.add_mul]; omega
theorem flat_at (he : ∀ x, (enc x).length = size) {L : List α} {j : Nat} {u : Value} (h : (L.flatMap enc)[j]? = some u) : ∃ k, ∃ hk : k < L.length, ∃ r, j = k * size + r ∧ r < size ∧ (enc L[k])[r]? = some u := by
  have hj : j < L.length * size := by
    rw [← flat_len he L]
    exact (List.getElem?_eq_some_iff.1 h).1
  have hs : 0 < size := by
    rcases Nat.eq_zero_or_pos size with h0 | h0
    · subst h0; simp at hj
    · exact h0
  have hk : j / size < L.length := (Nat.div_lt_iff_lt_mul hs).2 hj
  have hr : j % size < size := Nat.mod_lt _ hs
  have e1 : j / size * size + j % size = j := by rw [Nat.mul_comm]; exact Nat.div_add_mod j size
  refine ⟨j / size, hk, j % size, e1.symm, hr, ?_⟩
  rw [← flatMap_get he L (j / size) hk (j % size) hr, e1]
  exact h
/-- What the call owns reads as the list. -/
theorem OwnL.sl (he : ∀ x, (enc x).length = size) (h : OwnL w base e size enc v L) : ∃ A c, v = .slice A L.length c ∧ L.length ≤ c ∧ c ≤ maxLen ∧ Sl w w.heap.size size enc A L := by
  rcases h.2 with ⟨rfl, h0⟩ | ⟨g, cap, cur, rfl, hb, hg, h1, h2, h3, h4⟩
  · have : L = [] := List.eq_nil_of_length_eq_zero h0
    subst this
    exact ⟨none, 0, rfl, by simp, by unfold maxLen; omega, Sl.nil_⟩
  · refine ⟨_, cap, rfl, h1, h2, fun _ => ⟨g, 0, rfl, (Array.getElem?_eq_some_iff.1 hg).1, fun k hk j u hu => ?_⟩⟩
    have hj : j < size := by
      rcases Nat.lt_or_ge j size with hlt | hge
      · exact hlt
      · rw [List.getElem?_eq_none (by rw [he]; exact hge)] at hu; cases hu
    have hx : (L.flatMap enc)[k * size + j]? = some u := (flatMap_get he L k hk j hj).trans hu
    have hc := World.ownsRow.cells h (g := g) rfl _ _ hx
    have e1 : (⟨g, 0, none⟩ : Addr).add (k * size + j) = ⟨g, k * size + j, none⟩ := by unfold Addr.add; split <;> simp_all
    rw [e1] at hc
    rw [Nat.zero_add]
    exact hc
/-- A slice in new memory, known whole, is the call's own. -/
theorem OwnL.of_block {cs : Array Value} {g cap : Nat} (hg : w.heap[g]? = some (.cells cs e (0, 0))) (hb : base ≤ g) (hcap : cap = L.length) (hm : L.length ≤ maxLen) (hcs : cs.toList = L.flatMap enc) (he : ∀ x, (enc x).length = size) : OwnL w base e size enc (.slice (some ⟨g, 0, none⟩) L.length cap) L := by
  have h1 : cs.size = L.length * size := by rw [← Array.length_toList, hcs, flat_len he]
  refine ⟨flat_len he L, .inr ⟨g, cap, cs, rfl, hb, hg, by omega, by omega, by rw [h1, hcap], ?_⟩⟩
  rw [List.take_of_length_le (by rw [Array.length_toList]; omega), hcs]
theorem below_push {B : Nat} {a : World} (h : Below B a w) (hown : OwnL w B e size enc v L) (hg : w.grownBy w' v.ownBlock) (hB : B ≤ w.heap.size) : Below B a w' := below_append h hown hg hB
end

section
variable {α : Type} {P : Program} (w : World) {t e : TypeId} {size bytes base : Nat} {enc : α → List Value} {v : Value} {L : List α}
/-- append of one element that lies in a block of its own. -/
theorem wpList_push {ops : Array Oper} {rest : List Oper} {o : Oper} {a : Act} {Q : Exit → Act → World → Prop} (hgd : o.guard = none) (s x : Operand) (t e : TypeId)
    (ho : o.op = .call { callee := .builtin .append, args := #[s, x], argTypes := #[t, t] }) (base size bytes : Nat) (enc : α → List Value)
    (E : Elem P t e size bytes) (he : ∀ y, (enc y).length = size) (hone : ∀ y, ∀ u ∈ enc y, u.oneCell' = true) (v : Value) (L : List α) (hs : a.eval s = v) (hown : OwnL w base e size enc v L)
    (g c : Nat) (y : α) (hx : a.eval x = .slice (some ⟨g, 0, none⟩) 1 c) (hc : ∀ j u, (enc y)[j]? = some u → w.cell? ⟨g, j, none⟩ = some u)
    (hn : L.length ≤ 100000000) (hby : bytes ≤ 1000) (hbase : base ≤ w.heap.size)
    (h : ∀ v' w', OwnL w' base e size enc v' (L ++ [y]) → w.grownBy w' v.ownBlock → wpList P ops Q rest (a.put o.dst v') w') : wpList P ops Q (o :: rest) a w := by
  obtain ⟨ht, i, z, hi, hz, h1, h2, h3, h4⟩ := E
  refine wpList_append_own w hgd s x t ho base e i z size bytes ht hi hz h1 h2 h3 h4 v L.length _ hs hown ⟨g, 0, none⟩ 1 c (enc y) hx (by rw [he, Nat.one_mul]) (fun j u hu => ?_) (hone y) (by unfold maxLen; omega) ?_ hbase (fun v' w' ho' hg _ => h v' w' ?_ hg)
  · have e1 : (⟨g, 0, none⟩ : Addr).add j = ⟨g, j, none⟩ := by unfold Addr.add; split <;> simp_all
    rw [e1]
    exact hc j u hu
  · have := Nat.mul_le_mul (show L.length + 1 ≤ 100000001 by omega) hby
    omega
  · unfold OwnL
    rw [List.length_append, List.flatMap_append, List.flatMap_singleton]
    exact ho'
theorem step_push {ops : Array Oper} {o : Oper} {a : Act} {K : Act → World → Prop} {Q : Exit → Act → World → Prop} {E0 : Prop} (hgd : o.guard = none) (s x : Operand) (t e : TypeId)
    (ho : o.op = .call { callee := .builtin .append, args := #[s, x], argTypes := #[t, t] }) (base size bytes : Nat) (enc : α → List Value)
    (E : Elem P t e size bytes) (he : ∀ y, (enc y).length = size) (hone : ∀ y, ∀ u ∈ enc y, u.oneCell' = true) (v : Value) (L : List α) (hs : a.eval s = v) (hown : OwnL w base e size enc v L)
    (g c : Nat) (y : α) (hx : a.eval x = .slice (some ⟨g, 0, none⟩) 1 c) (hc : ∀ j u, (enc y)[j]? = some u → w.cell? ⟨g, j, none⟩ = some u)
    (hn : L.length ≤ 100000000) (hby : bytes ≤ 1000) (hbase : base ≤ w.heap.size) (H : Nat) (hH : w.heap.size = H)
    (h : ∀ g' cap w', OwnL w' base e size enc (.slice (some ⟨g', 0, none⟩) (L.length + 1) cap) (L ++ [y]) → w.grownBy w' v.ownBlock → (v.ownBlock = some g' ∨ g' = H) → g' < w'.heap.size → K (a.put o.dst (.slice (some ⟨g', 0, none⟩) (L.length + 1) cap)) w') :
    if Region.wanted o (yielded ops a.tmps) = true then Oper.wp P o a w K Q else E0 := by
  obtain ⟨ht, i, z, hi, hz, h1, h2, h3, h4⟩ := E
  refine step_append_lies w hgd s x t ho base e i z size bytes ht hi hz h1 h2 h3 h4 v L.length _ hs hown ⟨g, 0, none⟩ 1 c (enc y) hx (by rw [he, Nat.one_mul]) (fun j u hu => ?_) (hone y) (by omega) (by unfold maxLen; omega) ?_ hbase H hH (fun g' cap w' ho' hg hat hlt => h g' cap w' ?_ hg hat hlt)
  · have e1 : (⟨g, 0, none⟩ : Addr).add j = ⟨g, j, none⟩ := by unfold Addr.add; split <;> simp_all
    rw [e1]
    exact hc j u hu
  · have := Nat.mul_le_mul (show L.length + 1 ≤ 100000001 by omega) hby
    omega
  · unfold OwnL
    rw [List.length_append, List.flatMap_append, List.flatMap_singleton]
    exact ho'
/-- append of nothing. -/
theorem run_append_of_nil (base : Nat) (t ty e : TypeId) (i : TypeInfo) (size : Nat) (ht : P.underlying t = some (.slice e)) (hi : P.info? e = some i)
    (v : Value) (n : Nat) (xs : List Value) (hown : w.ownsRow base e size v n xs) (c : Nat) : (Builtin.append_ #[t, t] ty #[v, .slice none 0 c]).run P w = .ok v w := by
  rcases hown.2 with ⟨rfl, rfl⟩ | ⟨g, cap, cur, rfl, _, _, hnc, _⟩
  · simp [Builtin.append_, run_underlying ht, sizeOf, typeInfo, hi, Builtin.lenOf, Builtin.firstCells]
  · simp [Builtin.append_, run_underlying ht, sizeOf, typeInfo, hi, Builtin.lenOf, Builtin.firstCells, hnc, storeCells]
theorem run_append_all (t e : TypeId) (base size bytes : Nat) (enc : α → List Value) (ty : TypeId)
    (E : Elem P t e size bytes) (he : ∀ y, (enc y).length = size) (hone : ∀ y, ∀ u ∈ enc y, u.oneCell' = true) (v : Value) (L : List α) (hown : OwnL w base e size enc v L)
    (A : Option Addr) (c B : Nat) (M : List α) (hM : Sl w B size enc A M)
    (hn : L.length + M.length ≤ 100000000) (hby : bytes ≤ 1000) (hbase : base ≤ w.heap.size) :
    ∃ v' w', (Builtin.append_ #[t, t] ty #[v, .slice A M.length c]).run P w = .ok v' w' ∧ OwnL w' base e size enc v' (L ++ M) ∧ w.grownBy w' v.ownBlock ∧ (v'.ownBlock = v.ownBlock ∨ v'.ownBlock = some w.heap.size) := by
  obtain ⟨ht, i, z, hi, hz, h1, h2, h3, h4⟩ := E
  rcases A with _ | ad
  · have : M = [] := by
      rcases M with _ | ⟨m, M⟩
      · rfl
      · obtain ⟨_, _, e0, _⟩ := hM (by simp)
        cases e0
    subst this
    exact ⟨v, w, run_append_of_nil w base t ty e i size ht hi v _ _ hown c, by simpa using hown, World.grownBy.refl w _, .inl rfl⟩
  · have hcells : ∀ j u, (M.flatMap enc)[j]? = some u → w.cell? (ad.add j) = some u := by
      intro j u hu
      obtain ⟨k, hk, r, rfl, hr, hu'⟩ := flat_at he hu
      obtain ⟨b, off, e0, _, h⟩ := hM.at_ hk
      injection e0 with e0
      subst e0
      have e1 : (⟨b, off, none⟩ : Addr).add (k * size + r) = ⟨b, off + k * size + r, none⟩ := by unfold Addr.add; split <;> simp_all; omega
      rw [e1]
      exact h r u hu'
    obtain ⟨v', w', hrun, g2, g3, _, g5⟩ := run_append_own_at (P := P) w base t ty e i z size bytes ht hi hz h1 h2 h3 h4 v L.length _ hown ad M.length c (M.flatMap enc) (flat_len he M) hcells
      (fun u hu => by obtain ⟨y, _, hy⟩ := List.mem_flatMap.1 hu; exact hone y u hy) (by unfold maxLen; omega) (by have := Nat.mul_le_mul (show L.length + M.length ≤ 100000000 by omega) hby; omega) hbase
    refine ⟨v', w', hrun, ?_, g3, g5⟩
    unfold OwnL
    rw [List.length_append, List.flatMap_append]
    exact g2
theorem wp_append_all {o : Oper} {a : Act} {K : Act → World → Prop} {Q : Exit → Act → World → Prop} (s x : Operand) (t e : TypeId)
    (ho : o.op = .call { callee := .builtin .append, args := #[s, x], argTypes := #[t, t] }) (base size bytes : Nat) (enc : α → List Value)
    (E : Elem P t e size bytes) (he : ∀ y, (enc y).length = size) (hone : ∀ y, ∀ u ∈ enc y, u.oneCell' = true) (v : Value) (L : List α) (hs : a.eval s = v) (hown : OwnL w base e size enc v L)
    (A : Option Addr) (c B : Nat) (M : List α) (hx : a.eval x = .slice A M.length c) (hM : Sl w B size enc A M)
    (hn : L.length + M.length ≤ 100000000) (hby : bytes ≤ 1000) (hbase : base ≤ w.heap.size)
    (h : ∀ v' w', OwnL w' base e size enc v' (L ++ M) → w.grownBy w' v.ownBlock → (v'.ownBlock = v.ownBlock ∨ v'.ownBlock = some w.heap.size) → K (a.put o.dst v') w') : o.wp P a w K Q := by
  obtain ⟨v', w', hrun, g2, g3, g5⟩ := run_append_all (P := P) w t e base size bytes enc o.type E he hone v L hown A c B M hM hn hby hbase
  unfold Oper.wp execOp
  simp only [ho, resolve, invoke, builtin, Sem.run_bind, Sem.run_pure, Result.andThen_ok, List.map_toArray, List.map_cons, List.map_nil, hs, hx, hrun]
  exact h v' w' g2 g3 g5
theorem wpList_append_all {ops : Array Oper} {rest : List Oper} {o : Oper} {a : Act} {Q : Exit → Act → World → Prop} (hgd : o.guard = none) (s x : Operand) (t e : TypeId)
    (ho : o.op = .call { callee := .builtin .append, args := #[s, x], argTypes := #[t, t] }) (base size bytes : Nat) (enc : α → List Value)
    (E : Elem P t e size bytes) (he : ∀ y, (enc y).length = size) (hone : ∀ y, ∀ u ∈ enc y, u.oneCell' = true) (v : Value) (L : List α) (hs : a.eval s = v) (hown : OwnL w base e size enc v L)
    (A : Option Addr) (c B : Nat) (M : List α) (hx : a.eval x = .slice A M.length c) (hM : Sl w B size enc A M)
    (hn : L.length + M.length ≤ 100000000) (hby : bytes ≤ 1000) (hbase : base ≤ w.heap.size)
    (h : ∀ v' w', OwnL w' base e size enc v' (L ++ M) → w.grownBy w' v.ownBlock → (v'.ownBlock = v.ownBlock ∨ v'.ownBlock = some w.heap.size) → wpList P ops Q rest (a.put o.dst v') w') : wpList P ops Q (o :: rest) a w :=
  wpList_plain hgd fun _ hK => wp_append_all w s x t e ho base size bytes enc E he hone v L hs hown A c B M hx hM hn hby hbase fun v' w' h2 h3 h4 => hK _ _ (h v' w' h2 h3 h4)
theorem step_append_all {ops : Array Oper} {o : Oper} {a : Act} {K : Act → World → Prop} {Q : Exit → Act → World → Prop} {E0 : Prop} (hgd : o.guard = none) (s x : Operand) (t e : TypeId)
    (ho : o.op = .call { callee := .builtin .append, args := #[s, x], argTypes := #[t, t] }) (base size bytes : Nat) (enc : α → List Value)
    (E : Elem P t e size bytes) (he : ∀ y, (enc y).length = size) (hone : ∀ y, ∀ u ∈ enc y, u.oneCell' = true) (v : Value) (L : List α) (hs : a.eval s = v) (hown : OwnL w base e size enc v L)
    (A : Option Addr) (c B : Nat) (M : List α) (hx : a.eval x = .slice A M.length c) (hM : Sl w B size enc A M)
    (hn : L.length + M.length ≤ 100000000) (hby : bytes ≤ 1000) (hbase : base ≤ w.heap.size)
    (h : ∀ v' w', OwnL w' base e size enc v' (L ++ M) → w.grownBy w' v.ownBlock → (v'.ownBlock = v.ownBlock ∨ v'.ownBlock = some w.heap.size) → K (a.put o.dst v') w') :
    if Region.wanted o (yielded ops a.tmps) = true then Oper.wp P o a w K Q else E0 := by
  have hw : Region.wanted o (yielded ops a.tmps) = true := by simp [Region.wanted, hgd]
  rw [if_pos hw]
  exact wp_append_all w s x t e ho base size bytes enc E he hone v L hs hown A c B M hx hM hn hby hbase h
end
theorem news_new (w : World) (cs : Array Value) (t : TypeId) (l : List Value) (h : cs = l.toArray) : ∀ (j : Nat) (u : Value), l[j]? = some u → (w.alloc (.cells cs t)).cell? ⟨w.heap.size, j, none⟩ = some u := fun j u hu => by
  rw [World.cell?_alloc_new, h]
  simpa using hu
theorem drop_rev {α : Type} {l : List α} {p : Nat} (h : p < l.length) : (l.drop p).reverse = (l.drop (p + 1)).reverse ++ [l[p]] := by
  rw [List.drop_eq_getElem_cons h, List.reverse_cons]
end Go.Proofs.YtmlhoojcdidgkaaGreat
