/-
  Rooms: the laws in plain Lean (no Go in sight).
-/
import Derived.Test.YtphapnooonjnmaaRmP
namespace Go.Proofs.Ytphapnooonjnmaa
set_option linter.unusedSimpArgs false
set_option linter.unusedVariables false
set_option maxHeartbeats 1000000
def nightS (n : Int) : Spn := ⟨n, n + 1⟩
theorem free_night (l : List Spn) (n : Int) : freeR l (nightS n) = !has l n := by
  unfold freeR has
  congr 2
  funext b
  rw [Bool.eq_iff_iff]
  unfold hits
  rw [decide_eq_true_eq, inS_iff]
  unfold nightS
  simp only
  omega
theorem free_has {l : List Spn} (hl : Norm l) {s : Spn} (hs : s.frm < s.til) : freeR l s = true ↔ ∀ n, s.frm ≤ n → n < s.til → has l n = false := by
  unfold freeR
  rw [Bool.not_eq_true', List.any_eq_false]
  constructor
  · intro h n h1 h2
    rw [has_no]
    intro b hb
    have := h b hb
    unfold hits at this
    rw [decide_eq_true_eq] at this
    omega
  · intro h b hb hh
    unfold hits at hh
    rw [decide_eq_true_eq] at hh
    have hp := hl.pos b hb
    have h1 := h (max b.frm s.frm) (by omega) (by omega)
    rw [has_iff.2 ⟨b, hb, by omega, by omega⟩] at h1
    cases h1
theorem has_one (s : Spn) (n : Int) : has [s] n = inS s n := by rw [has_cons, has_nil, Bool.or_false]
theorem per_night {n : Int} (h0 : 0 ≤ n) (h1 : n ≤ 365) : perOk (nightS n) = true := perOk_iff.2 (by unfold nightS; simp only; omega)
/-! ### A room that is blocked -/
def Room.with_ (r : Room) (u : List Spn) : Room := { r with blk := u }
theorem with_same (r : Room) : r.with_ r.blk = r := rfl
theorem with_with (r : Room) (u v : List Spn) : (r.with_ u).with_ v = r.with_ v := rfl
theorem room_set {r : Room} (h : r.ok = true) {s : Spn} (hs : perOk s = true) {u : List Spn} (hu : IsComb fU r.blk [s] u) (hl : u.length ≤ 1000) : (r.with_ u).ok = true := by
  obtain ⟨h1, h2, h3⟩ := Room.ok_iff.1 h
  refine Room.ok_iff.2 ⟨h1, comb_set hu hl, fun x hx => ?_⟩
  have hp := hu.1.pos x hx
  have hx' : has u (x.til - 1) = true := has_iff.2 ⟨x, hx, by omega, by omega⟩
  rw [hu.2.2] at hx'
  unfold fU at hx'
  rw [Bool.or_eq_true] at hx'
  rcases hx' with hx' | hx'
  · obtain ⟨b, hb, b1, b2⟩ := has_iff.1 hx'
    have := h3 b hb
    omega
  · rw [has_one, inS_iff] at hx'
    have := perOk_iff.1 hs
    omega
def keyR (r : Room) : Int × Int × Int := (r.id, r.house, r.joins)
theorem key_with (r : Room) (u : List Spn) : keyR (r.with_ u) = keyR r := rfl
theorem okN_with (r : Room) (u : List Spn) : (r.with_ u).okN = r.okN := rfl
theorem map_set_same {α β : Type} {f : α → β} {l : List α} {k : Nat} (hk : k < l.length) {y : α} (h : f y = f l[k]) : (l.set k y).map f = l.map f := by
  rw [List.map_set, h]
  refine List.ext_getElem (by simp) fun n h1 h2 => ?_
  rw [List.getElem_set]
  split
  · next e => subst e; simp
  · rfl
theorem pair_key (l : List Room) (r : Room) : pairOk l r = (decide ((keyR r).2.2 = 0) || (l.map keyR).any fun k => decide (k.1 = (keyR r).2.2 ∧ k.2.1 = (keyR r).2.1 ∧ k.2.2 = (keyR r).1)) := by
  unfold pairOk
  rw [List.any_map]
  rfl
theorem rooms_set {l : List Room} (h : roomsOk l = true) {k : Nat} (hk : k < l.length) {u : List Spn} (hr : (l[k].with_ u).ok = true) : roomsOk (l.set k (l[k].with_ u)) = true := by
  obtain ⟨h1, h2, h3, h4⟩ := roomsOk_iff.1 h
  have hkey : (l.set k (l[k].with_ u)).map keyR = l.map keyR := map_set_same hk rfl
  refine roomsOk_iff.2 ⟨by rw [List.length_set]; exact h1, fun r hr' => ?_, ?_, fun r hr' => ?_⟩
  · rcases List.mem_or_eq_of_mem_set hr' with h | rfl
    · exact h2 r h
    · exact hr
  · have : idsR (l.set k (l[k].with_ u)) = idsR l := map_set_same hk rfl
    rw [this]
    exact h3
  · rw [pair_key, hkey, ← pair_key]
    rcases List.mem_or_eq_of_mem_set hr' with h | rfl
    · exact h4 r h
    · have := h4 _ (List.getElem_mem hk)
      rw [pair_key] at this ⊢
      exact this
/-- Blocked twice, or in another order. -/
theorem comb_twice {b u v : List Spn} {s t : Spn} (h1 : IsComb fU b [s] u) (h2 : IsComb fU u [t] v) (h : s.frm ≤ t.frm ∧ t.til ≤ s.til) : v = u := by
  refine norm_eq h2.1 h1.1 fun n => ?_
  rw [h2.2.2, h1.2.2, has_one, has_one]
  unfold fU
  cases hb : has b n <;> cases hs : inS s n <;> cases ht : inS t n <;> first | rfl | skip
  all_goals
    rw [inS_iff] at ht
    rw [inS_no] at hs
    omega
theorem comb_swap {b u v p q : List Spn} {s t : Spn} (h1 : IsComb fU b [s] u) (h2 : IsComb fU u [t] v) (h3 : IsComb fU b [t] p) (h4 : IsComb fU p [s] q) : q = v := by
  refine norm_eq h4.1 h2.1 fun n => ?_
  rw [h4.2.2, h3.2.2, h2.2.2, h1.2.2]
  unfold fU
  rw [Bool.or_assoc, Bool.or_assoc, Bool.or_comm (has [t] n)]
/-! ### Counting -/
def isHK (h k : Int) (r : Room) : Bool := (r.house == h) && (r.kind == k)
def cntM (l : List Room) (h k n : Int) : Nat := l.countP fun r => isHK h k r && freeR r.blk (nightS n)
def countM (l : List Room) (h k n : Int) : Int × Int := if (roomsOk l && inB h 1 20 && inB k 1 20 && inB n 0 365) = true then ((cntM l h k n : Int), 0) else (0, 1)
theorem rooms_perm {l m : List Room} (hp : l.Perm m) (h : roomsOk l = true) : roomsOk m = true := by
  obtain ⟨h1, h2, h3, h4⟩ := roomsOk_iff.1 h
  refine roomsOk_iff.2 ⟨by rw [← hp.length_eq]; exact h1, fun r hr => h2 r (hp.mem_iff.2 hr), ?_, fun r hr => ?_⟩
  · exact (hp.map Room.id).nodup_iff.1 h3
  · have := h4 r (hp.mem_iff.2 hr)
    unfold pairOk at this ⊢
    rw [Bool.or_eq_true] at this ⊢
    refine this.imp id fun h => ?_
    obtain ⟨x, hx, h5⟩ := List.any_eq_true.1 h
    exact List.any_eq_true.2 ⟨x, hp.mem_iff.1 hx, h5⟩
theorem cnt_perm {l m : List Room} (hp : l.Perm m) (h k n : Int) : cntM l h k n = cntM m h k n := hp.countP_eq _
/-- The sum over the kinds 1 .. k of one house; over the houses 1 .. h. -/
def sumK (l : List Room) (h n : Int) : Nat → Nat
  | 0 => 0
  | k + 1 => sumK l h n k + cntM l h ((k + 1 : Nat) : Int) n
def sumH (l : List Room) (n : Int) : Nat → Nat
  | 0 => 0
  | h + 1 => sumH l n h + sumK l ((h + 1 : Nat) : Int) n 20
def freeN (l : List Room) (n : Int) : Nat := l.countP fun r => freeR r.blk (nightS n)
theorem countP_or {α : Type} {p q : α → Bool} {l : List α} (h : ∀ x ∈ l, ¬ (p x = true ∧ q x = true)) : l.countP (fun x => p x || q x) = l.countP p + l.countP q := by
  induction l with
  | nil => rfl
  | cons x l ih =>
    rw [List.countP_cons, List.countP_cons, List.countP_cons, ih (fun y hy => h y (by simp [hy]))]
    have := h x (by simp)
    cases hp : p x <;> cases hq : q x <;> simp_all <;> omega
theorem sumK_eq (l : List Room) (h n : Int) : ∀ k, sumK l h n k = l.countP fun r => (decide (r.house = h) && decide (1 ≤ r.kind ∧ r.kind ≤ (k : Int))) && freeR r.blk (nightS n)
  | 0 => by
    unfold sumK
    rw [eq_comm, List.countP_eq_zero]
    intro r _
    have : decide (1 ≤ r.kind ∧ r.kind ≤ ((0 : Nat) : Int)) = false := by rw [decide_eq_false_iff_not]; omega
    rw [this]
    simp
  | k + 1 => by
    unfold sumK
    rw [sumK_eq l h n k]
    unfold cntM
    rw [← countP_or]
    · congr 1
      funext r
      rw [← Bool.and_or_distrib_right]
      congr 1
      rw [Bool.eq_iff_iff]
      unfold isHK
      simp only [Bool.or_eq_true, Bool.and_eq_true, decide_eq_true_eq, beq_iff_eq]
      omega
    · intro r _
      unfold isHK
      simp only [Bool.and_eq_true, decide_eq_true_eq, beq_iff_eq]
      omega
theorem sumH_eq (l : List Room) (n : Int) : ∀ h, sumH l n h = l.countP fun r => (decide (1 ≤ r.house ∧ r.house ≤ (h : Int)) && decide (1 ≤ r.kind ∧ r.kind ≤ 20)) && freeR r.blk (nightS n)
  | 0 => by
    unfold sumH
    rw [eq_comm, List.countP_eq_zero]
    intro r _
    have : decide (1 ≤ r.house ∧ r.house ≤ ((0 : Nat) : Int)) = false := by rw [decide_eq_false_iff_not]; omega
    rw [this]
    simp
  | h + 1 => by
    unfold sumH
    rw [sumH_eq l n h, sumK_eq, ← countP_or]
    · congr 1
      funext r
      rw [← Bool.and_or_distrib_right]
      congr 1
      rw [Bool.eq_iff_iff]
      simp only [Bool.or_eq_true, Bool.and_eq_true, decide_eq_true_eq]
      omega
    · intro r _
      simp only [Bool.and_eq_true, decide_eq_true_eq]
      omega
theorem sum_all {l : List Room} (h : roomsOk l = true) (n : Int) : sumH l n 20 = freeN l n := by
  rw [sumH_eq]
  unfold freeN
  refine List.countP_congr fun r hr => ?_
  have := Room.okN_iff.1 (Room.ok_iff.1 ((roomsOk_iff.1 h).2.1 r hr)).1
  have h1 : decide (1 ≤ r.house ∧ r.house ≤ ((20 : Nat) : Int)) = true := by rw [decide_eq_true_eq]; omega
  have h2 : decide (1 ≤ r.kind ∧ r.kind ≤ 20) = true := by rw [decide_eq_true_eq]; omega
  rw [h1, h2]
  rfl
theorem cnt_le (l : List Room) (h k n : Int) : cntM l h k n ≤ l.length := List.countP_le_length
theorem sumK_le (l : List Room) (h n : Int) : ∀ k, sumK l h n k ≤ k * l.length
  | 0 => by simp [sumK]
  | k + 1 => by
    unfold sumK
    have := sumK_le l h n k
    have := cnt_le l h ((k + 1 : Nat) : Int) n
    rw [Nat.add_mul]
    omega
theorem sumH_le (l : List Room) (n : Int) : ∀ h, sumH l n h ≤ h * (20 * l.length)
  | 0 => by simp [sumH]
  | h + 1 => by
    unfold sumH
    have := sumH_le l n h
    have := sumK_le l ((h + 1 : Nat) : Int) n 20
    rw [Nat.add_mul]
    omega
/-! ### Pairs -/
theorem mate_there {l : List Room} (h : roomsOk l = true) {k : Nat} (hk : k < l.length) (hj : l[k].joins ≠ 0) : ∃ j, ∃ hj : j < l.length, j ≠ k ∧ idxR l l[k].joins = j ∧ l[j].id = l[k].joins ∧ l[j].house = l[k].house ∧ l[j].joins = l[k].id := by
  obtain ⟨_, h2, h3, h4⟩ := roomsOk_iff.1 h
  have hp := h4 _ (List.getElem_mem hk)
  unfold pairOk at hp
  rw [decide_eq_false hj, Bool.false_or] at hp
  obtain ⟨x, hx, hp⟩ := List.any_eq_true.1 hp
  rw [decide_eq_true_eq] at hp
  obtain ⟨j, hj', rfl⟩ := List.getElem_of_mem hx
  refine ⟨j, hj', ?_, ?_, hp.1, hp.2.1, hp.2.2⟩
  · rintro rfl
    exact (Room.okN_iff.1 (Room.ok_iff.1 (h2 _ (List.getElem_mem hk))).1).2.2.2.2.2.2.2.2 hp.1.symm
  · rw [← hp.1]
    exact idxR_own h3 hj'
theorem less_bad {l : List Room} (h : roomsOk l = true) {k : Nat} (hk : k < l.length) (hj : l[k].joins ≠ 0) : roomsOk (l.take k ++ l.drop (k + 1)) = false := by
  obtain ⟨j, hj', hne, _, e1, _, e3⟩ := mate_there h hk hj
  obtain ⟨_, h2, h3, _⟩ := roomsOk_iff.1 h
  cases hb : roomsOk (l.take k ++ l.drop (k + 1))
  · rfl
  · exfalso
    have hmem : l[j] ∈ l.take k ++ l.drop (k + 1) := by
      rw [List.mem_append]
      rcases Nat.lt_or_ge j k with h5 | h5
      · exact .inl (List.mem_take_iff_getElem.2 ⟨j, by omega, rfl⟩)
      · exact .inr (List.mem_drop_iff_getElem.2 ⟨j - (k + 1), by omega, by congr 1; omega⟩)
    have hp := (roomsOk_iff.1 hb).2.2.2 _ hmem
    unfold pairOk at hp
    have hid := (Room.okN_iff.1 (Room.ok_iff.1 (h2 _ (List.getElem_mem hk))).1).1
    rw [decide_eq_false (by omega), Bool.false_or] at hp
    obtain ⟨x, hx, hp⟩ := List.any_eq_true.1 hp
    rw [decide_eq_true_eq] at hp
    have hx' : ∃ i, ∃ hi : i < l.length, i ≠ k ∧ x = l[i] := by
      rcases List.mem_append.1 hx with hx | hx
      · obtain ⟨i, hi, rfl⟩ := List.mem_take_iff_getElem.1 hx
        exact ⟨i, by omega, by omega, rfl⟩
      · obtain ⟨i, hi, rfl⟩ := List.mem_drop_iff_getElem.1 hx
        exact ⟨k + 1 + i, by omega, by omega, rfl⟩
    obtain ⟨i, hi, hik, rfl⟩ := hx'
    exact hik (nodup_at h3 hi hk (hp.1.trans e3))
end Go.Proofs.Ytphapnooonjnmaa
