/-
  Rooms: what they are, in plain Lean (no Go in sight).
-/
import Derived.Test.YtphapnooonjnmaaSpW5
import Derived.Test.YtphapnooonjnmaaPlain
namespace Go.Proofs.Ytphapnooonjnmaa
set_option linter.unusedSimpArgs false
set_option linter.unusedVariables false
set_option maxHeartbeats 1000000
structure Room where
  id : Int
  house : Int
  kind : Int
  joins : Int
  acc : Bool
  blk : List Spn
deriving DecidableEq
def Room.okN (r : Room) : Bool := inB r.id 1 1000000 && inB r.house 1 20 && inB r.kind 1 20 && inB r.joins 0 1000000 && decide (r.joins ≠ r.id)
def lateS (s : Spn) : Bool := decide (366 < s.til)
def Room.ok (r : Room) : Bool := r.okN && setOk r.blk && !(r.blk.any lateS)
theorem Room.okN_iff {r : Room} : r.okN = true ↔ 1 ≤ r.id ∧ r.id ≤ 1000000 ∧ 1 ≤ r.house ∧ r.house ≤ 20 ∧ 1 ≤ r.kind ∧ r.kind ≤ 20 ∧ 0 ≤ r.joins ∧ r.joins ≤ 1000000 ∧ r.joins ≠ r.id := by
  unfold Room.okN
  simp only [Bool.and_eq_true, inB_iff, decide_eq_true_eq]
  omega
theorem late_no {l : List Spn} : l.any lateS = false ↔ ∀ s ∈ l, s.til ≤ 366 := by
  rw [List.any_eq_false]
  constructor
  · intro h s hs
    have := h s hs
    unfold lateS at this
    simp at this
    exact this
  · intro h s hs
    have := h s hs
    unfold lateS
    simp
    exact this
theorem Room.ok_iff {r : Room} : r.ok = true ↔ r.okN = true ∧ setOk r.blk = true ∧ ∀ s ∈ r.blk, s.til ≤ 366 := by
  unfold Room.ok
  rw [Bool.and_eq_true, Bool.and_eq_true, Bool.not_eq_true', late_no, and_assoc]
/-- The last span decides. -/
theorem late_last {l : List Spn} (h : setOk l = true) {m : Nat} (hm : m + 1 = l.length) : l.any lateS = decide (366 < (l[m]'(by omega)).til) := by
  rw [Bool.eq_iff_iff, decide_eq_true_eq]
  constructor
  · intro h1
    obtain ⟨s, hs, h2⟩ := List.any_eq_true.1 h1
    obtain ⟨j, hj, rfl⟩ := List.getElem_of_mem hs
    unfold lateS at h2
    rw [decide_eq_true_eq] at h2
    by_cases e : j = m
    · subst e; exact h2
    · have h3 := List.pairwise_iff_getElem.1 (setOk_iff.1 h).2.1 j m hj (by omega) (by omega)
      have h4 := Spn.ok_iff.1 ((setOk_iff.1 h).1 _ (List.getElem_mem (show m < l.length by omega)))
      omega
  · intro h1
    refine List.any_eq_true.2 ⟨_, List.getElem_mem (show m < l.length by omega), ?_⟩
    unfold lateS
    rw [decide_eq_true_eq]
    exact h1
def perOk (s : Spn) : Bool := decide (0 ≤ s.frm ∧ s.frm < s.til ∧ s.til ≤ 366)
theorem perOk_iff {s : Spn} : perOk s = true ↔ 0 ≤ s.frm ∧ s.frm < s.til ∧ s.til ≤ 366 := by unfold perOk; rw [decide_eq_true_eq]
/-- The first room with an ID. -/
def isId (a : Int) (r : Room) : Bool := decide (r.id = a)
def findR (l : List Room) (a : Int) : Option Room := l.find? (isId a)
def idxR (l : List Room) (a : Int) : Int := ixOf (isId a) l
theorem idxR_cases (l : List Room) (a : Int) : (idxR l a = -1 ∧ (∀ r ∈ l, r.id ≠ a)) ∨ ∃ k : Nat, ∃ hk : k < l.length, idxR l a = k ∧ l[k].id = a ∧ ∀ j (hj : j < l.length), j < k → l[j].id ≠ a := by
  unfold idxR ixOf
  cases h : l.findIdx? (isId a) with
  | none =>
    rw [List.findIdx?_eq_none_iff] at h
    refine .inl ⟨rfl, fun r hr e => ?_⟩
    have := h r hr
    unfold isId at this
    simp [e] at this
  | some k =>
    rw [List.findIdx?_eq_some_iff_getElem] at h
    obtain ⟨hk, hp, hn⟩ := h
    refine .inr ⟨k, hk, rfl, by simpa [isId] using hp, fun j hj hjk e => ?_⟩
    have := hn j hjk
    unfold isId at this
    simp [e] at this
theorem idxR_is {l : List Room} {a : Int} {k : Nat} (hk : k < l.length) (h : l[k].id = a) (hn : ∀ j (hj : j < l.length), j < k → l[j].id ≠ a) : idxR l a = k :=
  ixOf_found hk (by simpa [isId] using h) fun j hj hjk => by simpa [isId] using hn j hj hjk
theorem idxR_none {l : List Room} {a : Int} (hn : ∀ r ∈ l, r.id ≠ a) : idxR l a = -1 :=
  ixOf_none fun j hj => by simpa [isId] using hn _ (List.getElem_mem hj)
def idsR (l : List Room) : List Int := l.map Room.id
def pairOk (l : List Room) (r : Room) : Bool := decide (r.joins = 0) || l.any fun k => decide (k.id = r.joins ∧ k.house = r.house ∧ k.joins = r.id)
def roomsOk (l : List Room) : Bool := decide (l.length ≤ 400) && l.all Room.ok && decide (idsR l).Nodup && l.all (pairOk l)
theorem roomsOk_iff {l : List Room} : roomsOk l = true ↔ l.length ≤ 400 ∧ (∀ r ∈ l, r.ok = true) ∧ (idsR l).Nodup ∧ ∀ r ∈ l, pairOk l r = true := by
  unfold roomsOk
  rw [Bool.and_eq_true, Bool.and_eq_true, Bool.and_eq_true, decide_eq_true_eq, decide_eq_true_eq, List.all_eq_true, List.all_eq_true]
  simp [and_assoc]
theorem nodup_at {l : List Room} (h : (idsR l).Nodup) {i j : Nat} (hi : i < l.length) (hj : j < l.length) (e : l[i].id = l[j].id) : i = j := by
  unfold idsR at h
  have := List.getElem_inj (xs := l.map Room.id) (i := i) (j := j) (h₀ := by simpa using hi) (h₁ := by simpa using hj) h
  simp only [List.getElem_map] at this
  exact this.1 e
theorem nodup_of {l : List Room} (h : ∀ (i j : Nat) (hi : i < l.length) (hj : j < l.length), i < j → l[i].id ≠ l[j].id) : (idsR l).Nodup := by
  unfold idsR
  rw [List.Nodup, List.pairwise_iff_getElem]
  intro i j hi hj hij
  simp only [List.getElem_map]
  exact h i j (by simpa using hi) (by simpa using hj) hij
theorem idxR_own {l : List Room} (h : (idsR l).Nodup) {k : Nat} (hk : k < l.length) : idxR l l[k].id = k :=
  idxR_is hk rfl fun j hj hjk e => by have := nodup_at h hj hk e; omega
theorem nodup_idx {l : List Room} (h : ∀ (k : Nat) (hk : k < l.length), idxR l l[k].id = k) : (idsR l).Nodup := by
  refine nodup_of fun i j hi hj hij e => ?_
  have h1 := h i hi
  have h2 := h j hj
  rw [← e, h1] at h2
  omega
/-- Whether the room with an ID is the other one of a pair. -/
def mateOk (l : List Room) (r : Room) : Bool := match findR l r.joins with | some k => decide (k.house = r.house ∧ k.joins = r.id) | none => false
theorem findR_idx {l : List Room} {a : Int} {k : Nat} (hk : k < l.length) (h : idxR l a = k) : findR l a = some l[k] := by
  rcases idxR_cases l a with ⟨h1, _⟩ | ⟨k', hk', h1, h2, h3⟩
  · omega
  · obtain rfl : k' = k := by omega
    unfold findR
    rw [List.find?_eq_some_iff_getElem]
    exact ⟨by simpa [isId] using h2, k', hk', rfl, fun j hj => by simpa [isId] using h3 j (by omega) hj⟩
theorem findR_none {l : List Room} {a : Int} (h : idxR l a < 0) : findR l a = none := by
  rcases idxR_cases l a with ⟨_, h1⟩ | ⟨k', hk', h1, _⟩
  · unfold findR
    rw [List.find?_eq_none]
    intro r hr
    simpa [isId] using h1 r hr
  · omega
theorem pair_mate {l : List Room} (h : (idsR l).Nodup) (r : Room) : pairOk l r = (decide (r.joins = 0) || mateOk l r) := by
  unfold pairOk
  congr 1
  rw [Bool.eq_iff_iff]
  rcases idxR_cases l r.joins with ⟨h1, h2⟩ | ⟨k, hk, h1, h2, h3⟩
  · unfold mateOk
    rw [findR_none (by omega)]
    simp only [Bool.false_eq_true, iff_false]
    intro h4
    obtain ⟨x, hx, hp⟩ := List.any_eq_true.1 h4
    rw [decide_eq_true_eq] at hp
    exact h2 x hx hp.1
  · unfold mateOk
    rw [findR_idx hk h1]
    simp only
    rw [decide_eq_true_eq]
    constructor
    · intro h4
      obtain ⟨x, hx, hp⟩ := List.any_eq_true.1 h4
      rw [decide_eq_true_eq] at hp
      obtain ⟨j, hj, rfl⟩ := List.getElem_of_mem hx
      obtain rfl := nodup_at h hj hk (hp.1.trans h2.symm)
      exact hp.2
    · intro h4
      exact List.any_eq_true.2 ⟨_, List.getElem_mem hk, by rw [decide_eq_true_eq]; exact ⟨h2, h4⟩⟩
/-- What one round of the check asks. -/
def roundOk (l : List Room) (m : Nat) : Prop := ∃ h : m < l.length, l[m].ok = true ∧ idxR l l[m].id = m ∧ (decide (l[m].joins = 0) || mateOk l l[m]) = true
theorem rounds_ok {l : List Room} (h4 : l.length ≤ 400) (h : ∀ m, m < l.length → roundOk l m) : roomsOk l = true := by
  have hn : (idsR l).Nodup := nodup_idx fun k hk => (h k hk).2.2.1
  refine roomsOk_iff.2 ⟨h4, fun r hr => ?_, hn, fun r hr => ?_⟩
  · obtain ⟨j, hj, rfl⟩ := List.getElem_of_mem hr
    exact (h j hj).2.1
  · obtain ⟨j, hj, rfl⟩ := List.getElem_of_mem hr
    rw [pair_mate hn]
    exact (h j hj).2.2.2
theorem round_bad {l : List Room} {m : Nat} (hm : m < l.length) (h : ¬ roundOk l m) : roomsOk l = false := by
  cases hr : roomsOk l
  · rfl
  · obtain ⟨_, h2, h3, h4⟩ := roomsOk_iff.1 hr
    refine absurd ⟨hm, h2 _ (List.getElem_mem hm), idxR_own h3 hm, ?_⟩ h
    rw [← pair_mate h3]
    exact h4 _ (List.getElem_mem hm)
theorem roomsOk_long {l : List Room} (h : ¬ l.length ≤ 400) : roomsOk l = false := by
  cases hr : roomsOk l
  · rfl
  · exact absurd (roomsOk_iff.1 hr).1 h
theorem ids_take {l : List Room} {m : Nat} (hm : m < l.length) : idsR (l.take (m + 1)) = idsR (l.take m) ++ [l[m].id] := by
  unfold idsR
  rw [List.take_succ_eq_append_getElem hm, List.map_append]
  rfl
theorem roomsOk_twice {l : List Room} {m : Nat} (hm : m < l.length) (h : l[m].id ∈ idsR (l.take m)) : roomsOk l = false := by
  cases hb : roomsOk l
  · rfl
  · have hn := (roomsOk_iff.1 hb).2.2.1
    have hs : (idsR (l.take (m + 1))).Sublist (idsR l) := (List.take_sublist _ _).map _
    have := hn.sublist hs
    rw [ids_take hm] at this
    exact absurd rfl ((List.nodup_append.1 this).2.2 _ h _ (by simp))
theorem roomsOk_bad {l : List Room} {m : Nat} (hm : m < l.length) (h : l[m].ok = false) : roomsOk l = false := by
  cases hb : roomsOk l
  · rfl
  · have := (roomsOk_iff.1 hb).2.1 _ (List.getElem_mem hm)
    rw [h] at this
    cases this
theorem nodupI_snoc {ls : List Int} {a : Int} (h : ls.Nodup) (ha : a ∉ ls) : (ls ++ [a]).Nodup := by
  refine List.nodup_append.2 ⟨h, by simp, fun x hx y hy => ?_⟩
  simp at hy
  subst hy
  intro e
  exact ha (e ▸ hx)
theorem roomsOk_pair {l : List Room} {m : Nat} (hm : m < l.length) (hn : (idsR l).Nodup) (h : (decide (l[m].joins = 0) || mateOk l l[m]) = false) : roomsOk l = false := by
  cases hb : roomsOk l
  · rfl
  · have := (roomsOk_iff.1 hb).2.2.2 _ (List.getElem_mem hm)
    rw [pair_mate hn, h] at this
    cases this
theorem roomsOk_all {l : List Room} (h4 : l.length ≤ 400) (h1 : ∀ x ∈ l, x.ok = true) (hn : (idsR l).Nodup) (h : ∀ j (h : j < l.length), (decide (l[j].joins = 0) || mateOk l l[j]) = true) : roomsOk l = true := by
  refine roomsOk_iff.2 ⟨h4, h1, hn, fun r hr => ?_⟩
  obtain ⟨j, hj, rfl⟩ := List.getElem_of_mem hr
  rw [pair_mate hn]
  exact h j hj
/-! ### Whether a room is free -/
def hits (b s : Spn) : Bool := decide (b.frm < s.til ∧ s.frm < b.til)
def freeR (l : List Spn) (s : Spn) : Bool := !(l.any fun b => hits b s)
theorem free_meet {l r : List Spn} {s : Spn} (hl : Norm l) (hs : s.frm < s.til) (h : IsComb fM l [s] r) : decide (r = []) = freeR l s := by
  rw [Bool.eq_iff_iff, decide_eq_true_eq]
  unfold freeR
  rw [Bool.not_eq_true', List.any_eq_false]
  constructor
  · rintro rfl b hb hh
    unfold hits at hh
    rw [decide_eq_true_eq] at hh
    have hp := hl.pos b hb
    have h1 := h.2.2 (max b.frm s.frm)
    rw [has_nil] at h1
    have h2 : has l (max b.frm s.frm) = true := has_iff.2 ⟨b, hb, by omega, by omega⟩
    have h3 : has [s] (max b.frm s.frm) = true := has_iff.2 ⟨s, by simp, by omega, by omega⟩
    rw [h2, h3] at h1
    exact absurd h1 (by decide)
  · intro h1
    rcases r with _ | ⟨x, r⟩
    · rfl
    · exfalso
      have hx := h.1.pos x (by simp)
      have h2 := h.2.2 x.frm
      rw [has_iff.2 ⟨x, by simp, by omega, hx⟩] at h2
      have h3 : has l x.frm = true ∧ has [s] x.frm = true := by
        unfold fM at h2
        rw [eq_comm, Bool.and_eq_true] at h2
        exact h2
      obtain ⟨b, hb, b1, b2⟩ := has_iff.1 h3.1
      obtain ⟨t, ht, t1, t2⟩ := has_iff.1 h3.2
      obtain rfl : t = s := by simpa using ht
      refine h1 b hb ?_
      unfold hits
      rw [decide_eq_true_eq]
      omega
end Go.Proofs.Ytphapnooonjnmaa
