/-
  append of a whole slice of any size that the reach allows.
-/
import Derived.Test.YtmlhoojcdidgkaaGreatM07
import Derived.Test.YtmlhoojcdidgkaaGreatM25
namespace Go.Proofs.YtmlhoojcdidgkaaGreat
set_option linter.unusedSimpArgs false
set_option linter.unusedVariables false
open Go.RowKit Go.Maps
set_option maxHeartbeats 4000000
section
variable {α : Type} {P : Program} (w : World)
theorem run_append_big (t e : TypeId) (base size bytes : Nat) (enc : α → List Value) (ty : TypeId)
    (E : Elem P t e size bytes) (he : ∀ y, (enc y).length = size) (hone : ∀ y, ∀ u ∈ enc y, u.oneCell' = true) (v : Value) (L : List α) (hown : OwnL w base e size enc v L)
    (A : Option Addr) (c B : Nat) (M : List α) (hM : Sl w B size enc A M)
    (hn : L.length + M.length ≤ 9223372036854775807) (hby : (L.length + M.length) * bytes ≤ 140737488355328) (hbase : base ≤ w.heap.size) :
    ∃ v' w', (Builtin.append_ #[t, t] ty #[v, .slice A M.length c]).run P w = .ok v' w' ∧ OwnL w' base e size enc v' (L ++ M) ∧ w.grownBy w' v.ownBlock ∧ (v'.ownBlock = v.ownBlock ∨ v'.ownBlock = some w.heap.size) := by
  obtain ⟨ht, i, z, hi, hz, h1, h2, h3, h4⟩ := E
  rcases A with _ | ad
  · have : M = [] := by
      rcases M with _ | ⟨m, M⟩
      · rfl
      · obtain ⟨_, _, e0, _⟩ := hM (by simp)
        cases e0
    subst this
    exact ⟨v, w, run_append_of_nil w base t ty e i size ht hi v _ _ hown c, by simpa using hown, World.grownBy.refl w _, .inl rfl⟩
  · have hcells : ∀ j u, (M.flatMap enc)[j]? = some u → w.cell? (ad.add j) = some u := by
      intro j u hu
      obtain ⟨k, hk, r, rfl, hr, hu'⟩ := flat_at he hu
      obtain ⟨b, off, e0, _, h⟩ := hM.at_ hk
      injection e0 with e0
      subst e0
      have e1 : (⟨b, off, none⟩ : Addr).add (k * size + r) = ⟨b, off + k * size + r, none⟩ := by unfold Addr.add; split <;> simp_all; omega
      rw [e1]
      exact h r u hu'
    obtain ⟨v', w', hrun, g2, g3, _, g5⟩ := run_append_own_at (P := P) w base t ty e i z size bytes ht hi hz h1 h2 h3 h4 v L.length _ hown ad M.length c (M.flatMap enc) (flat_len he M) hcells
      (fun u hu => by obtain ⟨y, _, hy⟩ := List.mem_flatMap.1 hu; exact hone y u hy) (by unfold maxLen; omega) hby hbase
    refine ⟨v', w', hrun, ?_, g3, g5⟩
    unfold OwnL
    rw [List.length_append, List.flatMap_append]
    exact g2
theorem wp_append_big {o : Oper} {a : Act} {K : Act → World → Prop} {Q : Exit → Act → World → Prop} (s x : Operand) (t e : TypeId)
    (ho : o.op = .call { callee := .builtin .append, args := #[s, x], argTypes := #[t, t] }) (base size bytes : Nat) (enc : α → List Value)
    (E : Elem P t e size bytes) (he : ∀ y, (enc y).length = size) (hone : ∀ y, ∀ u ∈ enc y, u.oneCell' = true) (v : Value) (L : List α) (hs : a.eval s = v) (hown : OwnL w base e size enc v L)
    (A : Option Addr) (c B : Nat) (M : List α) (hx : a.eval x = .slice A M.length c) (hM : Sl w B size enc A M)
    (hn : L.length + M.length ≤ 9223372036854775807) (hby : (L.length + M.length) * bytes ≤ 140737488355328) (hbase : base ≤ w.heap.size)
    (h : ∀ v' w', OwnL w' base e size enc v' (L ++ M) → w.grownBy w' v.ownBlock → (v'.ownBlock = v.ownBlock ∨ v'.ownBlock = some w.heap.size) → K (a.put o.dst v') w') : o.wp P a w K Q := by
  obtain ⟨v', w', hrun, g2, g3, g5⟩ := run_append_big (P := P) w t e base size bytes enc o.type E he hone v L hown A c B M hM hn hby hbase
  unfold Oper.wp execOp
  simp only [ho, resolve, invoke, builtin, Sem.run_bind, Sem.run_pure, Result.andThen_ok, List.map_toArray, List.map_cons, List.map_nil, hs, hx, hrun]
  exact h v' w' g2 g3 g5
theorem wpList_append_big {ops : Array Oper} {rest : List Oper} {o : Oper} {a : Act} {Q : Exit → Act → World → Prop} (hgd : o.guard = none) (s x : Operand) (t e : TypeId)
    (ho : o.op = .call { callee := .builtin .append, args := #[s, x], argTypes := #[t, t] }) (base size bytes : Nat) (enc : α → List Value)
    (E : Elem P t e size bytes) (he : ∀ y, (enc y).length = size) (hone : ∀ y, ∀ u ∈ enc y, u.oneCell' = true) (v : Value) (L : List α) (hs : a.eval s = v) (hown : OwnL w base e size enc v L)
    (A : Option Addr) (c B : Nat) (M : List α) (hx : a.eval x = .slice A M.length c) (hM : Sl w B size enc A M)
    (hn : L.length + M.length ≤ 9223372036854775807) (hby : (L.length + M.length) * bytes ≤ 140737488355328) (hbase : base ≤ w.heap.size)
    (h : ∀ v' w', OwnL w' base e size enc v' (L ++ M) → w.grownBy w' v.ownBlock → (v'.ownBlock = v.ownBlock ∨ v'.ownBlock = some w.heap.size) → wpList P ops Q rest (a.put o.dst v') w') : wpList P ops Q (o :: rest) a w :=
  wpList_plain hgd fun _ hK => wp_append_big w s x t e ho base size bytes enc E he hone v L hs hown A c B M hx hM hn hby hbase fun v' w' h2 h3 h4 => hK _ _ (h v' w' h2 h3 h4)
end
theorem slice_reachB {H : Type} {P : Program} {t e : TypeId} {d : DataW H} {n B : Nat} (hs : P.underlying t = some (.slice e)) (hB : P.bytesOf e = B) (hd : n = 0 ∨ ∃ el sp, d = .slice el sp ∧ el.length = n) (hw : (DataW.weights P t d).all (· ≤ reachBytes) = true) : n * B ≤ 140737488351232 := by
  rcases hd with rfl | ⟨el, sp, rfl, rfl⟩
  · omega
  · unfold DataW.weights at hw
    rw [hs] at hw
    simp only [List.all_cons, Bool.and_eq_true, decide_eq_true_eq, hB] at hw
    have h2 := hw.1
    unfold reachBytes at h2
    have h3 : el.length * B ≤ (el.length + sp.length) * B := Nat.mul_le_mul_right _ (Nat.le_add_right _ _)
    omega
end Go.Proofs.YtmlhoojcdidgkaaGreat
