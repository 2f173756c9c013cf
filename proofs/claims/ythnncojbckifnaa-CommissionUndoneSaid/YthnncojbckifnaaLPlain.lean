/-
  Plain words for ledgers: entries, what is well-formed, balances, open entries. No Go in sight.
-/
import Derived.Test.YthnncojbckifnaaPlain
namespace Go.Proofs.Ythnncojbckifnaa
set_option linter.unusedSimpArgs false
set_option linter.unusedVariables false

structure Entry where
  day : Int
  debit : Int
  credit : Int
  cents : Int
  ref : Int
theorem Entry.ext' {a b : Entry} (h1 : a.day = b.day) (h2 : a.debit = b.debit) (h3 : a.credit = b.credit) (h4 : a.cents = b.cents) (h5 : a.ref = b.ref) : a = b := by
  cases a; cases b; simp_all
theorem Entry.eq_iff {a b : Entry} : a = b ↔ (a.day = b.day ∧ a.debit = b.debit ∧ a.credit = b.credit ∧ a.cents = b.cents ∧ a.ref = b.ref) :=
  ⟨fun h => by subst h; exact ⟨rfl, rfl, rfl, rfl, rfl⟩, fun ⟨h1, h2, h3, h4, h5⟩ => Entry.ext' h1 h2 h3 h4 h5⟩
instance : DecidableEq Entry := fun _ _ => decidable_of_iff _ Entry.eq_iff.symm
def Entry.ok (e : Entry) : Bool := inB e.day 0 366 && inB e.debit 100 999 && inB e.credit 100 999 && decide (e.debit ≠ e.credit) && inB e.cents 1 1000000000 && inB e.ref 0 1000000
theorem Entry.ok_iff {e : Entry} : e.ok = true ↔ (0 ≤ e.day ∧ e.day ≤ 366) ∧ (100 ≤ e.debit ∧ e.debit ≤ 999) ∧ (100 ≤ e.credit ∧ e.credit ≤ 999) ∧ e.debit ≠ e.credit ∧ (1 ≤ e.cents ∧ e.cents ≤ 1000000000) ∧ (0 ≤ e.ref ∧ e.ref ≤ 1000000) := by
  unfold Entry.ok
  simp [inB_iff, and_assoc]
def Rises (l : List Entry) : Prop := l.Pairwise fun a b => a.day ≤ b.day
instance (l : List Entry) : Decidable (Rises l) := by unfold Rises; infer_instance
theorem rises_iff {l : List Entry} : Rises l ↔ ∀ i (h : i + 1 < l.length), l[i].day ≤ l[i + 1].day := by
  unfold Rises
  rw [List.pairwise_iff_getElem]
  constructor
  · intro h i hi
    exact h i (i + 1) (by omega) hi (by omega)
  · intro h i j hi hj hij
    obtain ⟨d, rfl⟩ : ∃ d, j = i + d := ⟨j - i, by omega⟩
    clear hij
    induction d with
    | zero => exact Int.le_refl _
    | succ d ih => exact Int.le_trans (ih (by omega)) (h (i + d) (by omega))
def ledOk (l : List Entry) : Bool := decide (l.length ≤ 5000) && l.all Entry.ok && decide (Rises l)
theorem ledOk_iff {l : List Entry} : ledOk l = true ↔ l.length ≤ 5000 ∧ (∀ e ∈ l, e.ok = true) ∧ Rises l := by
  unfold ledOk
  rw [Bool.and_eq_true, Bool.and_eq_true, decide_eq_true_eq, decide_eq_true_eq, List.all_eq_true, and_assoc]
theorem ledOk_at {l : List Entry} (h : ledOk l = true) {i : Nat} (hi : i < l.length) : l[i].ok = true := (ledOk_iff.1 h).2.1 _ (List.getElem_mem hi)
theorem ledOk_nil : ledOk [] = true := by decide

/-! ### Balances -/
def mv (p : Int → Bool) (e : Entry) : Int := (if p e.debit then e.cents else 0) - (if p e.credit then e.cents else 0)
def upto (l : List Entry) (day : Int) : List Entry := l.filter fun e => decide (e.day ≤ day)
def mvs (p : Int → Bool) (l : List Entry) : Int := (l.map (mv p)).sum
def bal (p : Int → Bool) (l : List Entry) (day : Int) : Int := mvs p (upto l day)
theorem mvs_nil (p : Int → Bool) : mvs p [] = 0 := rfl
theorem mvs_cons (p : Int → Bool) (e : Entry) (l : List Entry) : mvs p (e :: l) = mv p e + mvs p l := by simp [mvs]
theorem mvs_append (p : Int → Bool) (a b : List Entry) : mvs p (a ++ b) = mvs p a + mvs p b := by simp [mvs]
theorem upto_append (a b : List Entry) (day : Int) : upto (a ++ b) day = upto a day ++ upto b day := List.filter_append ..
theorem bal_append (p : Int → Bool) (a b : List Entry) (day : Int) : bal p (a ++ b) day = bal p a day + bal p b day := by unfold bal; rw [upto_append, mvs_append]
theorem mv_bd (p : Int → Bool) {e : Entry} (h : e.ok = true) : -1000000000 ≤ mv p e ∧ mv p e ≤ 1000000000 := by
  have := (Entry.ok_iff.1 h).2.2.2.2.1
  unfold mv
  split <;> split <;> omega
theorem mvs_bd (p : Int → Bool) : ∀ {l : List Entry}, (∀ e ∈ l, e.ok = true) → -(1000000000 * (l.length : Int)) ≤ mvs p l ∧ mvs p l ≤ 1000000000 * (l.length : Int)
  | [], _ => by simp [mvs]
  | e :: l, h => by
    have h1 := mv_bd p (h e (by simp))
    have h2 := mvs_bd p (l := l) (fun x hx => h x (by simp [hx]))
    rw [mvs_cons, List.length_cons]
    omega
theorem upto_mem {l : List Entry} {day : Int} {e : Entry} (h : e ∈ upto l day) : e ∈ l := (List.mem_filter.1 h).1
theorem upto_len (l : List Entry) (day : Int) : (upto l day).length ≤ l.length := List.length_filter_le _ _
theorem bal_bd (p : Int → Bool) {l : List Entry} {day : Int} (h : ledOk l = true) : -5000000000000 ≤ bal p l day ∧ bal p l day ≤ 5000000000000 := by
  obtain ⟨h1, h2, _⟩ := ledOk_iff.1 h
  have := mvs_bd p (l := upto l day) (fun e he => h2 e (upto_mem he))
  have := upto_len l day
  unfold bal
  omega
/-- Of a ledger the entries up to a day are those at its head. -/
theorem upto_cut {l : List Entry} (h : Rises l) {day : Int} {k : Nat} (hk : k < l.length) (h1 : ∀ i (hi : i < l.length), i < k → l[i].day ≤ day) (h2 : day < l[k].day) : upto l day = l.take k := by
  unfold upto
  rw [← List.take_append_drop k l, List.filter_append]
  have e1 : (l.take k).filter (fun e => decide (e.day ≤ day)) = l.take k := by
    rw [List.filter_eq_self]
    intro e he
    obtain ⟨i, hi, rfl⟩ := List.getElem_of_mem he
    rw [List.length_take] at hi
    simpa using h1 i (by omega) (by omega)
  have e2 : (l.drop k).filter (fun e => decide (e.day ≤ day)) = [] := by
    rw [List.filter_eq_nil_iff]
    intro e he
    obtain ⟨i, hi, rfl⟩ := List.getElem_of_mem he
    rw [List.length_drop] at hi
    rw [List.getElem_drop]
    have : l[k].day ≤ l[k + i].day := by
      rcases Nat.eq_zero_or_pos i with rfl | h0
      · exact Int.le_refl _
      · exact (List.pairwise_iff_getElem.1 h) k (k + i) hk (by omega) (by omega)
    simp
    omega
  rw [e1, e2]
  simp
theorem upto_all {l : List Entry} {day : Int} (h1 : ∀ i (hi : i < l.length), l[i].day ≤ day) : upto l day = l := by
  unfold upto
  rw [List.filter_eq_self]
  intro e he
  obtain ⟨i, hi, rfl⟩ := List.getElem_of_mem he
  simpa using h1 i hi

/-! ### Post -/
def begun (l : List Entry) (day : Int) : Bool := match l.getLast? with | some e => decide (day < e.day) | none => false
def postR (l : List Entry) (e : Entry) : List Entry × Int :=
  if (!ledOk l || !e.ok) = true then ([], 1) else if begun l e.day = true then ([], 6) else if l.length = 5000 then ([], 2) else (l ++ [e], 0)
theorem begun_at {l : List Entry} {day : Int} (h : 0 < l.length) : begun l day = decide (day < (l[l.length - 1]'(by omega)).day) := by
  unfold begun
  rw [List.getLast?_eq_getElem?, List.getElem?_eq_getElem (by omega)]
theorem begun_nil {day : Int} : begun [] day = false := rfl

/-! ### Open entries -/
def turned (e : Entry) : Entry := ⟨e.day, e.credit, e.debit, e.cents, e.ref⟩
/-- Does x stand against e? -/
def against (e x : Entry) : Bool := decide (x.credit = e.debit ∧ x.debit = e.credit ∧ x.cents = e.cents ∧ x.ref = e.ref)
/-- The index of the last element for which something holds. -/
def lastIx {α : Type} (p : α → Bool) : List α → Option Nat
  | [] => none
  | x :: l => match lastIx p l with
    | some i => some (i + 1)
    | none => if p x then some 0 else none
def openStep (ref : Int) (out : List Entry) (e : Entry) : List Entry :=
  if e.ref ≠ ref then out else match lastIx (against e) out with
    | some i => out.eraseIdx i
    | none => out ++ [e]
def openE (l : List Entry) (ref : Int) : List Entry := l.foldl (openStep ref) []
def undone (day : Int) (e : Entry) : Entry := ⟨day, e.credit, e.debit, e.cents, e.ref⟩
def undoR (l : List Entry) (ref day : Int) : List Entry × Int :=
  if (!ledOk l || !inB ref 1 1000000 || !inB day 0 366) = true then ([], 1) else if begun l day = true then ([], 6) else
    if openE l ref = [] then ([], 4) else if 5000 < l.length + (openE l ref).length then ([], 2) else (l ++ (openE l ref).map (undone day), 0)
def balR (l : List Entry) (account day : Int) : Int × Int :=
  if (!ledOk l || !inB account 100 999 || !inB day 0 366) = true then (0, 1) else (bal (fun a => a == account) l day, 0)
def ofKind (k : Int) (a : Int) : Bool := inB a (100 * k) (100 * k + 99)
def kindR (l : List Entry) (kind day : Int) : Int × Int :=
  if (!ledOk l || !inB kind 1 9 || !inB day 0 366) = true then (0, 1) else (bal (ofKind kind) l day, 0)

theorem lastIx_some {α : Type} {p : α → Bool} : ∀ {l : List α} {i : Nat}, lastIx p l = some i → ∃ h : i < l.length, p l[i] = true ∧ ∀ j (hj : j < l.length), i < j → p l[j] = false
  | [], i, h => by simp [lastIx] at h
  | x :: l, i, h => by
    unfold lastIx at h
    cases hl : lastIx p l with
    | some k =>
      rw [hl] at h
      simp at h
      subst h
      obtain ⟨h1, h2, h3⟩ := lastIx_some hl
      refine ⟨by simpa using h1, by simpa using h2, fun j hj hij => ?_⟩
      obtain ⟨j, rfl⟩ : ∃ j', j = j' + 1 := ⟨j - 1, by omega⟩
      simpa using h3 j (by simpa using hj) (by omega)
    | none =>
      rw [hl] at h
      simp at h
      obtain ⟨hx, rfl⟩ := h
      refine ⟨by simp, by simpa using hx, fun j hj hij => ?_⟩
      obtain ⟨j, rfl⟩ : ∃ j', j = j' + 1 := ⟨j - 1, by omega⟩
      have := lastIx_none hl
      simpa using this _ (List.getElem_mem (show j < l.length by simpa using hj))
where
  lastIx_none {α : Type} {p : α → Bool} : ∀ {l : List α}, lastIx p l = none → ∀ x ∈ l, p x = false
    | [], _ => by simp
    | y :: l, h => by
      unfold lastIx at h
      cases hl : lastIx p l with
      | some k => rw [hl] at h; simp at h
      | none =>
        rw [hl] at h
        simp at h
        intro x hx
        rcases List.mem_cons.1 hx with rfl | hx
        · exact h
        · exact lastIx_none hl x hx
theorem lastIx_none_iff {α : Type} {p : α → Bool} : ∀ {l : List α}, lastIx p l = none ↔ ∀ x ∈ l, p x = false := by
  intro l
  refine ⟨lastIx_some.lastIx_none, fun h => ?_⟩
  cases hl : lastIx p l with
  | none => rfl
  | some i =>
    obtain ⟨h1, h2, _⟩ := lastIx_some hl
    rw [h _ (List.getElem_mem h1)] at h2
    cases h2
theorem lastIx_eq {α : Type} {p : α → Bool} {l : List α} {i : Nat} (h : i < l.length) (h1 : p l[i] = true) (h2 : ∀ j (hj : j < l.length), i < j → p l[j] = false) : lastIx p l = some i := by
  cases hl : lastIx p l with
  | none =>
    rw [lastIx_none_iff.1 hl _ (List.getElem_mem h)] at h1
    cases h1
  | some k =>
    obtain ⟨g1, g2, g3⟩ := lastIx_some hl
    rcases Nat.lt_trichotomy i k with hik | rfl | hik
    · rw [h2 k g1 hik] at g2; cases g2
    · rfl
    · rw [g3 i h hik] at h1; cases h1
end Go.Proofs.Ythnncojbckifnaa
