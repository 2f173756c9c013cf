/-
  Package span: two sets combined: the loop over the pieces.
-/
import Derived.Test.YtphapnooonjnmaaSpW6
import Derived.Test.YtphapnooonjnmaaRound
namespace Go.Proofs.Ytphapnooonjnmaa
set_option linter.unusedSimpArgs false
set_option linter.unusedVariables false
open Go.RowKit Go.Shelf
open Go.Sort (grow size_grow)

set_option maxHeartbeats 600000
set_option maxRecDepth 100000
attribute [local go_sem] Oper.semAt_some
/-- A region that draws its order and only reads, inside a round: the walk in text order serves. -/
theorem region_round_quiet {F : Fence} {n l id : Nat} {P : Program} {ops : List Oper} {Q : Exit → Act → World → Prop} {a : Act} {w : World} (hro : F.round = none) (hm : P.follows .mixedOrders = true) (hd : noDefer ops.toArray = true) (hs : Region.noSelect ops.toArray = true)
    (hB : Region.lexFrom .any ops.toArray ops.length 0 (Array.replicate ops.length false) = true)
    (h : wpQuietIn F n P ops.toArray (fun w' => w' = w.drew) (fun a' => Q .normal a' w.drew) ops a) : (Code.region id ops.toArray true).wpIn (F.inRound l) n P Q a w := by
  refine region_round hm hd ?_
  have h1 := wpAnyQIn_lex (md := .any) hs ops 0 (Array.replicate ops.length false) a (fun j => by simp) hB h
  have h2 := wpAnyIn_of_quiet (C := fun w' => w' = w.drew) (Q' := Q) hro (fun a' w' hw' hq => by subst hw'; exact hq) ops.length (Array.replicate ops.length false) a w.drew (show w.drew = w.drew from rfl) h1
  simpa using h2
/-- One operation of it. -/
theorem quiet_one {F : Fence} {n : Nat} {P : Program} {ops : Array Oper} {R : Act → Prop} {o : Oper} {rest : List Oper} {a : Act} {W : World} (v : Value) (hab : o.about P W a.eval = none) (hw : Region.wanted o (yielded ops a.tmps) = true)
    (hrun : (execOp a.eval o).run P W = .ok (.value v) W) (h : wpQuietIn F n P ops (fun w' => w' = W) R rest (a.put o.dst v)) : wpQuietIn F n P ops (fun w' => w' = W) R (o :: rest) a := by
  refine ⟨fun w hw f hf => (by subst hw; rw [hab] at hf; cases hf), ?_⟩
  rw [if_pos hw]
  refine ⟨v, fun w hw => ?_, h⟩
  subst hw
  unfold Oper.quietAtIn
  rw [hrun]
  exact ⟨rfl, rfl⟩
theorem quiet_skip {F : Fence} {n : Nat} {P : Program} {ops : Array Oper} {R : Act → Prop} {o : Oper} {rest : List Oper} {a : Act} {W : World} (hab : o.about P W a.eval = none) (hw : Region.wanted o (yielded ops a.tmps) = false)
    (h : wpQuietIn F n P ops (fun w' => w' = W) R rest (a.put o.dst undef)) : wpQuietIn F n P ops (fun w' => w' = W) R (o :: rest) a := by
  refine ⟨fun w hw f hf => (by subst hw; rw [hab] at hf; cases hf), ?_⟩
  rw [if_neg (by rw [hw]; simp)]
  exact h
theorem clo_u (p q : Bool) (w : World) : Calls Try.prog 48 #[.agg #[.bool p, .bool q]] w fun e w' => e = .returned (.bool (fU p q)) ∧ Below w.heap.size w w' := by
  go_enter Try.func48, Try.ntmps48
  go_wp2
  go_ret
  refine ⟨ret_bool ?_, ?_⟩
  · cases p <;> cases q <;> rfl
  · repeat' (first
      | (with_reducible exact Below.refl _ _)
      | (with_reducible assumption)
      | (with_reducible refine below_drewN ?_ _)
      | (with_reducible refine Below.drew ?_)
      | (with_reducible refine below_regrown_up _ _ ?_ ?_)
      | (with_reducible refine Below.alloc ?_ ?_ _)
      | (with_reducible refine Below.setCell ?_ ?_ _)
      | (with_reducible refine below_up ?_ ?_ (by assumption))
      | (with_reducible exact Nat.le_refl _)
      | omega
      | (simp; done)
      | (simp; omega))
theorem clo_m (p q : Bool) (w : World) : Calls Try.prog 54 #[.agg #[.bool p, .bool q]] w fun e w' => e = .returned (.bool (fM p q)) ∧ Below w.heap.size w w' := by
  go_enter Try.func54, Try.ntmps54
  go_wp2
  go_ret
  refine ⟨ret_bool ?_, ?_⟩
  · cases p <;> cases q <;> rfl
  · repeat' (first
      | (with_reducible exact Below.refl _ _)
      | (with_reducible assumption)
      | (with_reducible refine below_drewN ?_ _)
      | (with_reducible refine Below.drew ?_)
      | (with_reducible refine below_regrown_up _ _ ?_ ?_)
      | (with_reducible refine Below.alloc ?_ ?_ _)
      | (with_reducible refine Below.setCell ?_ ?_ _)
      | (with_reducible refine below_up ?_ ?_ (by assumption))
      | (with_reducible exact Nat.le_refl _)
      | omega
      | (simp; done)
      | (simp; omega))
theorem pieces_any (A B : Option Addr) (n c m d : Nat) (w : World) :
    Calls Try.prog 55 #[.slice A n c, .slice B m d] w fun e w' => e = .returned (.func (.func 58) #[] #[.pointer (some ⟨w.heap.size, 0, none⟩), .pointer (some ⟨w.heap.size + 1, 0, none⟩)]) ∧ w' = (w.alloc (.cells #[.slice A n c] 23)).alloc (.cells #[.slice B m d] 23) := by
  go_enter Try.func55, Try.ntmps55
  go_wp2
  go_ret
  exact ⟨rfl, rfl⟩
/-- A turn that cells of other types than the iterator's abide. -/
structure Soft (B : Nat) (U U' : World) : Prop where
  os : U'.os = U.os
  tape : U'.tape = U.tape
  output : U'.output = U.output
  size : U.heap.size ≤ U'.heap.size
  keep : ∀ (k : Nat) (o : Obj), U.heap[k]? = some o → (k < B ∨ (o.isCells = true ∧ ownKind tOwn o = false)) → U'.heap[k]? = some o
theorem soft_mild {B : Nat} {U U' : World} (h : Mild tOwn B U U') : Soft B U U' := ⟨h.os, h.tape, h.output, h.size, fun k o hk hb => h.keep k o hk (hb.imp id (·.2))⟩
theorem soft_put {B l : Nat} {U : World} {r : Loop} (hB : B ≤ l) (hl : U.heap[l]? = some (.loop r)) (o' : Obj) : Soft B U (U.putObj l o') :=
  ⟨rfl, rfl, rfl, by simp [World.putObj], fun k o hk hb => (World.putObj_heap_other (fun e => by
    subst e
    rw [hl] at hk
    cases hk
    rcases hb with hb | ⟨hb, _⟩
    · omega
    · cases hb)).trans hk⟩
theorem soft_putc {B l : Nat} {U : World} {o : Obj} (hB : B ≤ l) (hl : U.heap[l]? = some o) (ho : o.isCells = false) (o' : Obj) : Soft B U (U.putObj l o') :=
  ⟨rfl, rfl, rfl, by simp [World.putObj], fun k x hk hb => (World.putObj_heap_other (fun e => by
    subst e
    rw [hl] at hk
    cases hk
    rcases hb with hb | ⟨hb, _⟩
    · omega
    · rw [ho] at hb; cases hb)).trans hk⟩
theorem soft_below {B n : Nat} {a U U' : World} (h : Below n a U) (hs : Soft B U U') (hn : n ≤ B) (hz : n ≤ a.heap.size) : Below n a U' :=
  ⟨hs.os.trans h.os, hs.tape.trans h.tape, hs.output.trans h.output, Nat.le_trans h.size hs.size, fun k hk => by
    have hlt : k < U.heap.size := by have := h.size; omega
    have e := Array.getElem?_eq_getElem hlt
    have e2 := hs.keep k _ e (.inl (by omega))
    rw [e2, ← e]
    exact h.block k hk⟩
theorem soft_own {α : Type} {B base size : Nat} {e : TypeId} {enc : α → List Value} {v : Value} {L : List α} {U U' : World} (h : OwnL U base e size enc v L) (hs : Soft B U U') (he : tOwn e = false) : OwnL U' base e size enc v L := by
  refine ⟨h.1, ?_⟩
  rcases h.2 with h1 | ⟨g, cap, cur, h0, hb, hg, r⟩
  · exact .inl h1
  · exact .inr ⟨g, cap, cur, h0, hb, hs.keep g _ hg (.inr ⟨rfl, he⟩), r⟩
structure CbI (w : World) (M : Nat) (clo : Value) (f : Bool → Bool → Bool) (pre : List Piece) (U : World) : Prop where
  out : ∃ v, U.heap[M]? = some (.cells #[v] 23 (0, 0)) ∧ OwnL U (M + 1) 27 2 Spn.cs v (combP f pre)
  clo : U.heap[w.heap.size]? = some (.cells #[clo] 67 (0, 0))
  size : M + 1 + 1 + 1 ≤ U.heap.size
  below : Below w.heap.size w U
theorem cbI_soft {w : World} {M B : Nat} {clo : Value} {f : Bool → Bool → Bool} {pre : List Piece} {U U' : World} (h : CbI w M clo f pre U) (hs : Soft B U U') (hB : w.heap.size ≤ B) : CbI w M clo f pre U' := by
  obtain ⟨v, hv, hown⟩ := h.out
  exact ⟨⟨v, hs.keep _ _ hv (.inr ⟨rfl, rfl⟩), soft_own hown hs rfl⟩, hs.keep _ _ h.clo (.inr ⟨rfl, rfl⟩), Nat.le_trans h.size hs.size, soft_below h.below hs hB (Nat.le_refl _)⟩
theorem KeepsOthers.of_below {U U' : World} (h : Below U.heap.size U U') : KeepsOthers U U' := ⟨h.size, fun k o hk _ => (h.block k (Array.getElem?_eq_some_iff.1 hk).1).trans hk⟩
theorem cell_put {U : World} {l : Nat} {r : Loop} {o' : Obj} {p : Addr} {v : Value} (hr : U.heap[l]? = some (.loop r)) (h : U.cell? p = some v) : (U.putObj l o').cell? p = some v :=
  (World.cell?_of_block (World.putObj_heap_other (fun e => by
    have := isCells_of_cell h (o := .loop r) (by rw [e]; exact hr)
    cases this))).trans h
theorem wpListIn_push {α : Type} {F : Fence} {n0 : Nat} {P : Program} (w : World) {base size bytes : Nat} {e : TypeId} {enc : α → List Value} {v : Value} {L : List α} {ops : Array Oper} {rest : List Oper} {o : Oper} {a : Act} {Q : Exit → Act → World → Prop} (hgd : o.guard = none) (s x : Operand) (t : TypeId)
    (ho : o.op = .call { callee := .builtin .append, args := #[s, x], argTypes := #[t, t] }) (E : Elem P t e size bytes) (he : ∀ y, (enc y).length = size) (hone : ∀ y, ∀ u ∈ enc y, u.oneCell' = true) (hs : a.eval s = v) (hown : OwnL w base e size enc v L)
    (g c : Nat) (y : α) (hx : a.eval x = .slice (some ⟨g, 0, none⟩) 1 c) (hc : ∀ j u, (enc y)[j]? = some u → w.cell? ⟨g, j, none⟩ = some u)
    (hn : L.length ≤ 100000000) (hby : bytes ≤ 1000) (hbase : base ≤ w.heap.size)
    (h : ∀ v' w', OwnL w' base e size enc v' (L ++ [y]) → w.grownBy w' v.ownBlock → wpListIn F n0 P ops Q rest (a.put o.dst v') w') : wpListIn F n0 P ops Q (o :: rest) a w := by
  obtain ⟨ht, i, z, hi, hz, h1, h2, h3, h4⟩ := E
  refine wpListIn_append_own w hgd s x t ho base e i z size bytes ht hi hz h1 h2 h3 h4 v L.length _ hs hown ⟨g, 0, none⟩ 1 c (enc y) hx (by rw [he, Nat.one_mul]) (fun j u hu => ?_) (hone y) (by unfold maxLen; omega) ?_ hbase (fun v' w' ho' hg _ => h v' w' ?_ hg)
  · have e1 : (⟨g, 0, none⟩ : Addr).add j = ⟨g, j, none⟩ := by unfold Addr.add; split <;> simp_all
    rw [e1]
    exact hc j u hu
  · have := Nat.mul_le_mul (show L.length + 1 ≤ 100000001 by omega) hby
    omega
  · unfold OwnL
    rw [List.length_append, List.flatMap_append, List.flatMap_singleton]
    exact ho'
theorem news_atd {w : World} {n : Nat} (cs : Array Value) (t : TypeId) (l : List Value) (h : cs = l.toArray) (hn : n = w.heap.size) : ∀ (j : Nat) (u : Value), l[j]? = some u → ((w.alloc (.cells cs t)).drew).cell? ⟨n, j, none⟩ = some u := news_at cs t l h hn
theorem cell_alloc_lt {U : World} {p : Addr} {v : Value} {o : Obj} (h : U.cell? p = some v) : (U.alloc o).cell? p = some v := (World.cell?_of_block (Below.heap_alloc U o p.block (World.block_lt_of_cell? U _ h))).trans h
theorem frozen_alloc_lt {U : World} {b j : Nat} {o : Obj} (hb : b < U.heap.size) (h : U.frozen? ⟨b, j, none⟩ = false) : (U.alloc o).frozen? ⟨b, j, none⟩ = false := (World.frozen?_of_block (Below.heap_alloc U o b hb)).trans h
theorem keepsOthers_drew (W : World) : KeepsOthers W W.drew := ⟨Nat.le_refl _, fun _ _ h _ => h⟩
theorem cb_store {w U : World} {M : Nat} {clo : Value} {f : Bool → Bool → Bool} {pre : List Piece} {x : Piece} {o : List Spn} {s : Spn} {z : Int} {g cap n j : Nat} (h : CbI w M clo f pre U) (hM : w.heap.size < M)
    (hv : U.heap[M]? = some (.cells #[.slice (some ⟨g, 0, none⟩) n cap] 23 (0, 0))) (hown : OwnL U (M + 1) 27 2 Spn.cs (.slice (some ⟨g, 0, none⟩) n cap) (o ++ [s])) (hn : 0 < n)
    (he : combP f (pre ++ [x]) = o ++ [⟨s.frm, z⟩]) (hj : j = o.length * 2 + 1) :
    KeepsOthers U (U.setCell ⟨g, j, none⟩ (.int .i64 z)) ∧ KeepT tOwn U (U.setCell ⟨g, j, none⟩ (.int .i64 z)) ∧ CbI w M clo f (pre ++ [x]) (U.setCell ⟨g, j, none⟩ (.int .i64 z)) := by
  obtain ⟨_, hb, _, _, cur, hg, _, _⟩ := own_parts hown hn
  refine ⟨KeepsOthers.setCell _ _ _, (KeepT.refl tOwn U).setCell (p := ⟨g, j, none⟩) hg rfl _, ⟨_, (Below.heap_setCell U ⟨g, j, none⟩ _ M (by simp only; omega)).trans hv, ?_⟩, (Below.heap_setCell U ⟨g, j, none⟩ _ _ (by simp only; omega)).trans h.clo, by simp; exact h.size, h.below.setCell (p := ⟨g, j, none⟩) (by simp only; omega) _⟩
  rw [he]
  exact own_last hown hn hj
theorem cb_push {w U W6 : World} {M : Nat} {clo : Value} {f : Bool → Bool → Bool} {pre : List Piece} {x : Piece} {L : List Spn} {y : Spn} {v v' : Value} {cs : Array Value} (h : CbI w M clo f pre U) (hM : w.heap.size < M)
    (hv : U.heap[M]? = some (.cells #[v] 23 (0, 0))) (hown : OwnL U (M + 1) 27 2 Spn.cs v L) (hg : (U.alloc (.cells cs 27)).grownBy W6 v.ownBlock) (hown6 : OwnL W6 (M + 1) 27 2 Spn.cs v' (L ++ [y]))
    (he : combP f (pre ++ [x]) = L ++ [y]) :
    KeepsOthers U (W6.setCell ⟨M, 0, none⟩ v') ∧ KeepT tOwn U (W6.setCell ⟨M, 0, none⟩ v') ∧ CbI w M clo f (pre ++ [x]) (W6.setCell ⟨M, 0, none⟩ v') := by
  have hMs := h.size
  have hwz := h.below.size
  have hob : ∀ k, v.ownBlock = some k → M + 1 ≤ k := fun k e => (hown.lt k e).1
  have hrow : ∀ r, v.ownBlock = some r → ∃ ob : Obj, (U.alloc (.cells cs 27)).heap[r]? = some ob ∧ ob.isCells = true ∧ ownKind tOwn ob = false := by
    intro r hr
    rcases hown.2 with ⟨h1, _⟩ | ⟨g', cap', cur, h1, hb, hgg, _⟩
    · rw [h1] at hr; simp [Value.ownBlock] at hr
    · rw [h1] at hr
      have : g' = r := by simpa [Value.ownBlock] using hr
      subst this
      exact ⟨_, (Below.heap_alloc _ _ _ (Array.getElem?_eq_some_iff.1 hgg).1).trans hgg, rfl, rfl⟩
  have e6 : W6.heap[M]? = some (.cells #[v] 23 (0, 0)) := (hg.block M (by simp; omega) (fun e => by have := hob M e.symm; omega)).trans ((Below.heap_alloc _ _ _ (by omega)).trans hv)
  have ec : W6.heap[w.heap.size]? = some (.cells #[clo] 67 (0, 0)) := (hg.block _ (by simp; omega) (fun e => by have := hob _ e.symm; omega)).trans ((Below.heap_alloc _ _ _ (by omega)).trans h.clo)
  have hb6 : Below w.heap.size w W6 := below_append (h.below.alloc h.below.size _) ((hown.alloc _).more (by omega)) hg (by simp; omega)
  refine ⟨?_, ?_, ⟨_, heap_setCell_same W6 M 0 _ _ _ e6, ?_⟩, (Below.heap_setCell W6 ⟨M, 0, none⟩ _ _ (by simp only; omega)).trans ec, ?_, hb6.setCell (p := ⟨M, 0, none⟩) (by simp only; omega) _⟩
  · refine ((KeepsOthers.alloc _ _).trans (KeepsOthers.of_grownBy hg ?_)).trans (KeepsOthers.setCell _ _ _)
    intro r ob hr hk
    obtain ⟨ob', h1, h2, _⟩ := hrow r hr
    rw [hk] at h1
    cases h1
    exact h2
  · exact (((KeepT.refl tOwn U).alloc _).grown hg (fun r hr => by obtain ⟨ob, h1, _, h3⟩ := hrow r hr; exact ⟨ob, h1, h3⟩)).setCell (p := ⟨M, 0, none⟩) e6 rfl _
  · rw [he]
    exact ownsRow_setCell_below (a := ⟨M, 0, none⟩) hown6 (by simp only; omega) v'
  · have := hg.size
    simp at this ⊢
    omega
theorem comb_u (a b : List Spn) (A B : Option Addr) (c d : Nat) (w : World) (ha : SlSpn w A a) (hb : SlSpn w B b) (hva : setOk a = true) (hvb : setOk b = true) (hlen : 2 * (a.length + b.length) ≤ 1000) :
    Calls Try.prog 47 #[.slice A a.length c, .slice B b.length d, .func (.func 48) #[] #[]] w fun e w' => (∃ r A' c', e = .returned (.tuple #[.slice A' r.length c', .int .i64 0]) ∧ SlSpn w' A' r ∧ IsComb fU a b r ∧ r.length ≤ 2 * (a.length + b.length)) ∧ Below w.heap.size w w' := by
  have hla : a.length ≤ 140737488355328 := by omega
  have hlb : b.length ≤ 140737488355328 := by omega
  have HS1 : Hid True := Lib.hid trivial
  have hB0 : Below w.heap.size w (w.alloc (.cells #[.func (.func 48) #[] #[]] 67)) := (Below.refl _ _).alloc (Nat.le_refl _) _
  refine (callsIn_wide (n := 9)).1 ?_
  refine callsIn_of_wp_marks Try.func47 rfl trivial ?_ rfl
  simp only [Try.ntmps47, List.size_toArray, List.length_cons, List.length_nil, Nat.reduceAdd, Nat.reduceSub, Array.replicate_succ, Array.replicate_zero, List.push_toArray, List.append_toArray, List.nil_append, List.cons_append]
  gi_wp2_with (first | (have _ := HS1; clear HS1; refine ⟨trivial, ?_⟩; gi_at_call 43; refine (callsIn_wide.2 (valid_any a A c _ (ha.up (by repeat' (first | (with_reducible exact Below.refl _ _) | (with_reducible assumption) | (with_reducible refine below_drewN ?_ _) | (with_reducible refine Below.drew ?_) | (with_reducible refine below_regrown_up _ _ ?_ ?_) | (with_reducible refine Below.alloc ?_ ?_ _) | (with_reducible refine Below.setCell ?_ ?_ _) | (with_reducible refine below_up ?_ ?_ (by assumption)) | (with_reducible exact Nat.le_refl _) | omega | (simp; done) | (simp; omega)))) hla)).mono ?_; rintro e w1 ⟨rfl, hb1⟩; have hz1 := hb1.size; (try simp only [World.size_alloc, World.size_setCell, World.size_drew, size_drewN', size_grow, size_redrawn] at hz1); obtain ⟨hc1, hf1⟩ := bcellB (B := w.heap.size + 1) hb1 (by first | omega | (simp only [World.size_alloc, World.size_setCell, World.size_drew, size_drewN', size_grow, size_redrawn]; omega)); rw [hva]) | (refine ⟨trivial, ?_⟩; gi_at_call 43; refine (callsIn_wide.2 (valid_any b B d _ (hb.up (below_up hB0 (by simp) hb1)) hlb)).mono ?_; rintro e w2 ⟨rfl, hb2⟩; have hz2 := hb2.size; (try simp only [World.size_alloc, World.size_setCell, World.size_drew, size_drewN', size_grow, size_redrawn] at hz2); obtain ⟨hc2, hf2⟩ := bcellB (B := w.heap.size + 1) hb2 (by first | omega | (simp only [World.size_alloc, World.size_setCell, World.size_drew, size_drewN', size_grow, size_redrawn]; omega)); rw [hvb]) | (refine ⟨trivial, ?_⟩; gi_at_call 55; refine (callsIn_wide.2 (pieces_any A B a.length c b.length d _)).mono ?_; rintro e w3 ⟨rfl, hw3⟩))
  have hB2 := below_up (below_up hB0 (by simp) hb1) (by omega) hb2
  have hws : w3.heap.size = w2.heap.size + 1 + 1 + 1 := by rw [hw3]; simp
  have hb23 : Below w2.heap.size w2 w3 := by
    rw [hw3]
    repeat' (first
      | (with_reducible exact Below.refl _ _)
      | (with_reducible assumption)
      | (with_reducible refine below_drewN ?_ _)
      | (with_reducible refine Below.drew ?_)
      | (with_reducible refine below_regrown_up _ _ ?_ ?_)
      | (with_reducible refine Below.alloc ?_ ?_ _)
      | (with_reducible refine Below.setCell ?_ ?_ _)
      | (with_reducible refine below_up ?_ ?_ (by assumption))
      | (with_reducible exact Nat.le_refl _)
      | omega
      | (simp; done)
      | (simp; omega))
  have hB3 := below_up hB2 hB2.size hb23
  have k1 : w3.cell? ⟨w2.heap.size + 1, 0, none⟩ = some (.slice A a.length c) := by rw [hw3]; go_simp
  have k2 : w3.cell? ⟨w2.heap.size + 1 + 1, 0, none⟩ = some (.slice B b.length d) := by rw [hw3]; go_simp
  have kM : w3.heap[w2.heap.size]? = some (.cells #[.slice none 0 0] 23 (0, 0)) := by
    rw [hw3]
    exact (Below.heap_alloc _ _ _ (by simp; omega)).trans ((Below.heap_alloc _ _ _ (by simp)).trans (heap_alloc_new w2 _))
  have kC : w3.heap[w.heap.size]? = some (.cells #[.func (.func 48) #[] #[]] 67 (0, 0)) :=
    (hb23.block _ (by omega)).trans ((hb2.block _ (by omega)).trans ((hb1.block _ (by simp)).trans (heap_alloc_new w _)))
  have h00 : CbI w w2.heap.size (.func (.func 48) #[] #[]) fU [] w3 := ⟨⟨_, kM, OwnL.nil_⟩, kC, by omega, hB3⟩
  have hseq : SeqT tOwn Fence.wide 8 Try.prog 58 #[.pointer (some ⟨w2.heap.size + 1, 0, none⟩), .pointer (some ⟨w2.heap.size + 1 + 1, 0, none⟩)] Piece.args (fun xs => ∃ q, SortedEnds a b q ∧ xs = (runS q).1) (2 * (a.length + b.length)) w3 := fun l J W hW hJ hY h0 =>
    pcs_in 8 (by omega) l (w2.heap.size + 1) (w2.heap.size + 1 + 1) a b A B c d J W hva hvb hJ hY
      ((hW.cell (p := ⟨w2.heap.size + 1, 0, none⟩) (by simp only; omega)).trans k1) ((hW.cell (p := ⟨w2.heap.size + 1 + 1, 0, none⟩) (by simp only; omega)).trans k2) (ha.up (below_up hB3 hB3.size hW)) (hb.up (below_up hB3 hB3.size hW)) h0
  clear k1 k2 kM kC
  (try rw [← hw3])
  refine wpIn_rangeFuncT (T := tOwn) (w := w3) rfl (by omega) (gf := 58) (lb := #[.pointer (some ⟨w2.heap.size + 1, 0, none⟩), .pointer (some ⟨w2.heap.size + 1 + 1, 0, none⟩)]) rfl trivial (enters_of Try.func58 (by kernel_rfl) rfl) hseq (fun _ => rfl)
    (CbI w w2.heap.size (.func (.func 48) #[] #[]) fU) (fun x a' U => ∃ Bx, Bx + 1 < U.heap.size ∧ U.cell? ⟨Bx, 0, none⟩ = some (.int .i64 x.1.frm) ∧ U.cell? ⟨Bx, 1, none⟩ = some (.int .i64 x.1.til) ∧ U.cell? ⟨Bx + 1, 0, none⟩ = some (.bool x.2.1) ∧ U.cell? ⟨Bx + 1, 1, none⟩ = some (.bool x.2.2) ∧ a' = { tmps := #[.slice A a.length c, .slice B b.length d, .func (.func 48) #[] #[], undef, undef, .pointer (some { block := w.heap.size, off := 0 }), .slice none 0 0, .int .i64 0, .pointer (some { block := w2.heap.size, off := 0 }), .pointer (some { block := Bx, off := 0 }), .pointer (some { block := Bx + 1, off := 0 }), undef, .slice A a.length c, .bool true, .bool false, .bool false, .slice B b.length d, .bool true, .bool false, .bool false, .slice A a.length c, .slice B b.length d, .func (.func 58) #[] #[.pointer (some { block := w2.heap.size + 1, off := 0 }), .pointer (some { block := w2.heap.size + 1 + 1, off := 0 })], x.1.v, .agg #[.bool x.2.1, .bool x.2.2], undef, undef, undef, undef, undef, undef, undef, undef, undef, undef, undef, undef, undef, undef, undef, undef, undef, undef, undef, undef, undef, undef, undef, undef, undef, undef, undef, undef, undef, undef, undef, undef, undef, undef], defers := [] })
    (fun pre U U' h hm => cbI_soft h (soft_mild hm) (by omega)) (fun pre U l r o' h hl hr => cbI_soft h (soft_put hl hr o') (by omega)) (fun x a' U l r o' h hr => by
      obtain ⟨Bx, h1, h2, h3, h4, h5, h6⟩ := h
      exact ⟨Bx, by simp [World.putObj]; exact h1, cell_put hr h2, cell_put hr h3, cell_put hr h4, cell_put hr h5, h6⟩) h00 ?assign ?body ?done
  case assign =>
    intro l pre x U K hI hK
    dsimp only [Piece.args]
    gi_wp2
    refine hK _ _ ((KeepsOthers.alloc _ _).trans (KeepsOthers.alloc _ _)) (((KeepT.refl tOwn U).alloc _).alloc _) (cbI_soft hI (soft_mild (((Mild.refl tOwn U.heap.size U).alloc _).alloc _)) (by have := hI.size; have := hI.below.size; omega)) ⟨U.heap.size, by simp, by go_simp, by go_simp, by go_simp, by go_simp, rfl⟩
  case body =>
    intro l pre x a' U hI hax hln
    obtain ⟨Bx, hBx, x0, x1, y0, y1, rfl⟩ := hax
    dsimp only []
    obtain ⟨v, hvM, hown⟩ := hI.out
    have hUz := hI.size
    have hUw := hI.below.size
    have cM : U.cell? ⟨w2.heap.size, 0, none⟩ = some v := by rw [cell_of_row U _ 0 _ _ _ hvM]; rfl
    have frM : U.frozen? ⟨w2.heap.size, 0, none⟩ = false := by unfold World.frozen?; simp [hvM]
    have cC : U.cell? ⟨w.heap.size, 0, none⟩ = some (.func (.func 48) #[] #[]) := by rw [cell_of_row U _ 0 _ _ _ hI.clo]; rfl
    obtain ⟨s, p, q⟩ := x
    simp only at *
    have hpl := combP_len fU pre
    have hsn := combP_snoc fU pre (s, p, q)
    simp only at hsn
    cases hf : fU p q with
    | false =>
      rw [hf, if_neg (by simp)] at hsn
      have HSN := Lib.hid hsn
      clear hsn
      gi_wp2_with (refine ⟨trivial, ?_⟩; gi_at_call 48; refine (CallsIn.inRound l (callsIn_wide.2 (clo_u p q _))).mono ?_; rintro e w4 ⟨rfl, hb4⟩; rw [hf])
      exact ⟨KeepsOthers.of_below hb4, (KeepT.refl tOwn U).below hb4, by
        have h := cbI_soft hI (soft_mild ((Mild.refl tOwn U.heap.size U).below hb4)) (by omega)
        exact ⟨by rw [HSN.out]; exact h.out, h.clo, h.size, h.below⟩⟩
    | true =>
      rw [hf, if_pos rfl] at hsn
      have HSN := Lib.hid hsn
      clear hsn
      have hwM : w.heap.size < w2.heap.size := by omega
      have ltM : w2.heap.size < U.heap.size := by omega
      have ltB : Bx < U.heap.size := by omega
      have hpn : pre.length ≤ 1000 := by omega
      generalize hout : combP fU pre = out at *
      rcases split_last out with hno | ⟨o, sl, hno⟩
      · subst hno
        have HE : Hid (combP fU (pre ++ [(s, p, q)]) = [] ++ [s]) := Lib.hid (by rw [HSN.out]; rfl)
        obtain ⟨Ao, co, rfl, hco, _, hso⟩ := hown.sl spn_len
        gi_wp2_with (refine ⟨trivial, ?_⟩; gi_at_call 48; refine (CallsIn.inRound l (callsIn_wide.2 (clo_u p q _))).mono ?_; rintro e w4 ⟨rfl, hb4⟩; rw [hf]; have hz4 := hb4.size; have cM4 := (hb4.cell (p := ⟨w2.heap.size, 0, none⟩) ltM).trans cM; have fM4 := (hb4.frozen (p := ⟨w2.heap.size, 0, none⟩) ltM).trans frM; have x04 := (hb4.cell (p := ⟨Bx, 0, none⟩) ltB).trans x0; have x14 := (hb4.cell (p := ⟨Bx, 1, none⟩) ltB).trans x1)
        have ltM4 : w2.heap.size < w4.heap.size := by omega
        have ltB4 : Bx < w4.heap.size := by omega
        have hI4 := cbI_soft hI (soft_mild (((Mild.refl tOwn U.heap.size U).below hb4).drew)) (by omega)
        have hown4 : OwnL w4 (w2.heap.size + 1) 27 2 Spn.cs (.slice Ao 0 co) [] := hown.below hb4
        have hvM4 : w4.drew.heap[w2.heap.size]? = some (.cells #[.slice Ao 0 co] 23 (0, 0)) := (hb4.block _ ltM).trans hvM
        refine region_round_quiet rfl (by kernel_rfl) (by kernel_rfl) (by kernel_rfl) (by kernel_rfl) ?_
        (refine quiet_one (.int .i64 0) (by first | rfl | (simp [Oper.about])) (by first | (simp [Region.wanted]; done) | go_simp) (by go_simp) ?_)
        (refine quiet_one (.bool false) (by first | rfl | (simp [Oper.about])) (by first | (simp [Region.wanted]; done) | go_simp) (by go_simp) ?_)
        (refine quiet_one (.bool false) (by first | rfl | (simp [Oper.about])) (by first | (simp [Region.wanted]; done) | go_simp) (by go_simp) ?_)
        (refine quiet_skip (by first | rfl | (simp [Oper.about])) (by go_simp) ?_)
        (refine quiet_skip (by first | rfl | (simp [Oper.about])) (by go_simp) ?_)
        (refine quiet_skip (by first | rfl | (simp [Oper.about])) (by go_simp) ?_)
        (refine quiet_skip (by first | rfl | (simp [Oper.about])) (by go_simp) ?_)
        (refine quiet_skip (by first | rfl | (simp [Oper.about])) (by go_simp) ?_)
        (refine quiet_skip (by first | rfl | (simp [Oper.about])) (by go_simp) ?_)
        (refine quiet_skip (by first | rfl | (simp [Oper.about])) (by go_simp) ?_)
        (refine quiet_skip (by first | rfl | (simp [Oper.about])) (by go_simp) ?_)
        (refine quiet_skip (by first | rfl | (simp [Oper.about])) (by go_simp) ?_)
        (refine quiet_one (.bool false) (by first | rfl | (simp [Oper.about])) (by first | (simp [Region.wanted]; done) | go_simp) (by go_simp) ?_)
        refine wpQuietIn_nil ?_
        show Exit.then _ _ _ _ _
        go_simp
        have hol : ([] : List Spn).length ≤ 1000 := by simp
        have hown4d : OwnL w4.drew (w2.heap.size + 1) 27 2 Spn.cs _ _ := hown4.drew
        have cMd : w4.drew.cell? ⟨w2.heap.size, 0, none⟩ = some _ := cM4
        have fMd : w4.drew.frozen? ⟨w2.heap.size, 0, none⟩ = false := fM4
        gi_wp2_with (gi_at_builtin; go_loud (refine wpListIn_push _ rfl (.tmp 51) (.tmp 53) 23 rfl elemSpn spn_len spn_one rfl ((hown4.alloc _).drew) _ 1 s rfl (news_atd _ _ _ rfl (by simp)) (by first | (simp; done) | (simp at hol ⊢; omega)) (by omega) (by first | (simp; done) | (simp; omega)) ?_); intro v6 w6 hown6 hgrow6'; obtain ⟨A6, c6, rfl, _, _⟩ := hown6.form; have hgrow6 : (w4.drew.alloc (.cells #[.int .i64 s.frm, .int .i64 s.til] 27)).grownBy w6 _ := hgrow6'; clear hgrow6'; have cM6 := hgrow6.cell (cell_alloc_lt cMd) (fun e => by have h : w2.heap.size + 1 ≤ w2.heap.size := (hown4d.lt _ e.symm).1; omega); have fM6 : w6.frozen? ⟨w2.heap.size, 0, none⟩ = false := (World.frozen?_of_block (hgrow6.block w2.heap.size (by simp; omega) (fun e => by have h : w2.heap.size + 1 ≤ w2.heap.size := (hown4d.lt _ e.symm).1; omega))).trans (frozen_alloc_lt ltM4 fMd))
        obtain ⟨e1, e2, e3⟩ := cb_push hI4 hwM hvM4 hown4d hgrow6 hown6 HE.out
        first
          | exact ⟨((KeepsOthers.of_below hb4).trans (keepsOthers_drew _)).trans e1, (((KeepT.refl tOwn U).below hb4).drew).trans e2, e3⟩
          | (simp only [List.length_append, List.length_singleton, Nat.add_assoc, Nat.reduceAdd] at e1 e2 e3; exact ⟨((KeepsOthers.of_below hb4).trans (keepsOthers_drew _)).trans e1, (((KeepT.refl tOwn U).below hb4).drew).trans e2, e3⟩)
      · subst hno
        have hol : (o ++ [sl]).length ≤ 1000 := by omega
        obtain ⟨g, cap, hvv, hgb, hgl, hcap, hsl, hfz⟩ := own_open spn_len hown (by simp)
        subst hvv
        have q1 := (hsl.cells (k := o.length) (by simp)).2 1 (.int .i64 sl.til) (by simp [Spn.cs])
        rw [Nat.zero_add] at q1
        have f1 := hfz (o.length * 2 + 1)
        have HHOL := Lib.hid hol
        generalize hL : (o ++ [sl]).length = L at *
        have hL' : L = o.length + 1 := by rw [← hL, List.length_append]; rfl
        have hw1 : IntKind.i64.wrap ((L : Int) - 1) = (o.length : Int) := by rw [IntWalk.i64_in _ (by omega)]; omega
        have hx0 : (0 : Int) < (L : Int) := by omega
        have hx1 : (0 : Int) ≤ (o.length : Int) := by omega
        have hx2 : (o.length : Int) < (L : Int) := by omega
        have hx3 : o.length < L := by omega
        have hL0 : 0 < L := by omega
        have HL := Lib.hid hL
        have HL' := Lib.hid hL'
        clear hL hL' hsl hfz hcap
        by_cases hst : sl.til = s.frm
        · have hsb : (sl.til == s.frm) = true := by simpa using hst
          have HE : Hid (combP fU (pre ++ [(s, p, q)]) = o ++ [⟨sl.frm, s.til⟩]) := Lib.hid (by rw [HSN.out]; exact mstep_join hst)
          clear hst
          gi_wp2_with (refine ⟨trivial, ?_⟩; gi_at_call 48; refine (CallsIn.inRound l (callsIn_wide.2 (clo_u p q _))).mono ?_; rintro e w4 ⟨rfl, hb4⟩; rw [hf]; have hz4 := hb4.size; have cM4 := (hb4.cell (p := ⟨w2.heap.size, 0, none⟩) ltM).trans cM; have fM4 := (hb4.frozen (p := ⟨w2.heap.size, 0, none⟩) ltM).trans frM; have x04 := (hb4.cell (p := ⟨Bx, 0, none⟩) ltB).trans x0; have x14 := (hb4.cell (p := ⟨Bx, 1, none⟩) ltB).trans x1)
          have ltM4 : w2.heap.size < w4.heap.size := by omega
          have ltB4 : Bx < w4.heap.size := by omega
          have hI4 := cbI_soft hI (soft_mild (((Mild.refl tOwn U.heap.size U).below hb4).drew)) (by omega)
          have hown4 : OwnL w4 (w2.heap.size + 1) 27 2 Spn.cs (.slice (some ⟨g, 0, none⟩) L cap) (o ++ [sl]) := hown.below hb4
          have hvM4 : w4.drew.heap[w2.heap.size]? = some (.cells #[.slice (some ⟨g, 0, none⟩) L cap] 23 (0, 0)) := (hb4.block _ ltM).trans hvM
          have q14 := (hb4.cell (p := ⟨g, o.length * 2 + 1, none⟩) hgl).trans q1
          have f14 := (hb4.frozen (p := ⟨g, o.length * 2 + 1, none⟩) hgl).trans f1
          refine region_round_quiet rfl (by kernel_rfl) (by kernel_rfl) (by kernel_rfl) (by kernel_rfl) ?_
          (refine quiet_one (.int .i64 L) (by first | rfl | (simp [Oper.about])) (by first | (simp [Region.wanted]; done) | go_simp) (by go_simp) ?_)
          (refine quiet_one (.bool true) (by first | rfl | (simp [Oper.about])) (by first | (simp [Region.wanted]; done) | go_simp) (by go_simp) ?_)
          (refine quiet_one (.bool true) (by first | rfl | (simp [Oper.about])) (by first | (simp [Region.wanted]; done) | go_simp) (by go_simp) ?_)
          (refine quiet_one (.slice (some ⟨g, 0, none⟩) L cap) (by first | rfl | (simp [Oper.about])) (by first | (simp [Region.wanted]; done) | go_simp) (by go_simp) ?_)
          (refine quiet_one (.int .i64 L) (by first | rfl | (simp [Oper.about])) (by first | (simp [Region.wanted]; done) | go_simp) (by go_simp) ?_)
          (refine quiet_one (.int .i64 o.length) (by first | rfl | (simp [Oper.about])) (by first | (simp [Region.wanted]; done) | go_simp) (by go_simp) ?_)
          (refine quiet_one (.pointer (some ⟨g, o.length * 2, none⟩)) (by first | rfl | (simp [Oper.about])) (by first | (simp [Region.wanted]; done) | go_simp) (by go_simp) ?_)
          (refine quiet_one (.pointer (some ⟨g, o.length * 2 + 1, none⟩)) (by first | rfl | (simp [Oper.about])) (by first | (simp [Region.wanted]; done) | go_simp) (by go_simp) ?_)
          (refine quiet_one (.int .i64 sl.til) (by first | rfl | (simp [Oper.about])) (by first | (simp [Region.wanted]; done) | go_simp) (by go_simp) ?_)
          (refine quiet_one (.pointer (some ⟨Bx, 0, none⟩)) (by first | rfl | (simp [Oper.about])) (by first | (simp [Region.wanted]; done) | go_simp) (by go_simp) ?_)
          (refine quiet_one (.int .i64 s.frm) (by first | rfl | (simp [Oper.about])) (by first | (simp [Region.wanted]; done) | go_simp) (by go_simp) ?_)
          (refine quiet_one (.bool true) (by first | rfl | (simp [Oper.about])) (by first | (simp [Region.wanted]; done) | go_simp) (by go_simp) ?_)
          (refine quiet_one (.bool true) (by first | rfl | (simp [Oper.about])) (by first | (simp [Region.wanted]; done) | go_simp) (by go_simp) ?_)
          refine wpQuietIn_nil ?_
          show Exit.then _ _ _ _ _
          go_simp
          gi_wp2
          obtain ⟨e1, e2, e3⟩ := cb_store hI4 hwM hvM4 hown4.drew hL0 HE.out rfl
          exact ⟨((KeepsOthers.of_below hb4).trans (keepsOthers_drew _)).trans e1, (((KeepT.refl tOwn U).below hb4).drew).trans e2, e3⟩
        · have hsb : (sl.til == s.frm) = false := by simpa using hst
          have HE : Hid (combP fU (pre ++ [(s, p, q)]) = o ++ [sl] ++ [s]) := Lib.hid (by rw [HSN.out]; exact mstep_new hst)
          clear hst
          gi_wp2_with (refine ⟨trivial, ?_⟩; gi_at_call 48; refine (CallsIn.inRound l (callsIn_wide.2 (clo_u p q _))).mono ?_; rintro e w4 ⟨rfl, hb4⟩; rw [hf]; have hz4 := hb4.size; have cM4 := (hb4.cell (p := ⟨w2.heap.size, 0, none⟩) ltM).trans cM; have fM4 := (hb4.frozen (p := ⟨w2.heap.size, 0, none⟩) ltM).trans frM; have x04 := (hb4.cell (p := ⟨Bx, 0, none⟩) ltB).trans x0; have x14 := (hb4.cell (p := ⟨Bx, 1, none⟩) ltB).trans x1)
          have ltM4 : w2.heap.size < w4.heap.size := by omega
          have ltB4 : Bx < w4.heap.size := by omega
          have hI4 := cbI_soft hI (soft_mild (((Mild.refl tOwn U.heap.size U).below hb4).drew)) (by omega)
          have hown4 : OwnL w4 (w2.heap.size + 1) 27 2 Spn.cs (.slice (some ⟨g, 0, none⟩) L cap) (o ++ [sl]) := hown.below hb4
          have hvM4 : w4.drew.heap[w2.heap.size]? = some (.cells #[.slice (some ⟨g, 0, none⟩) L cap] 23 (0, 0)) := (hb4.block _ ltM).trans hvM
          have q14 := (hb4.cell (p := ⟨g, o.length * 2 + 1, none⟩) hgl).trans q1
          have f14 := (hb4.frozen (p := ⟨g, o.length * 2 + 1, none⟩) hgl).trans f1
          refine region_round_quiet rfl (by kernel_rfl) (by kernel_rfl) (by kernel_rfl) (by kernel_rfl) ?_
          (refine quiet_one (.int .i64 L) (by first | rfl | (simp [Oper.about])) (by first | (simp [Region.wanted]; done) | go_simp) (by go_simp) ?_)
          (refine quiet_one (.bool true) (by first | rfl | (simp [Oper.about])) (by first | (simp [Region.wanted]; done) | go_simp) (by go_simp) ?_)
          (refine quiet_one (.bool true) (by first | rfl | (simp [Oper.about])) (by first | (simp [Region.wanted]; done) | go_simp) (by go_simp) ?_)
          (refine quiet_one (.slice (some ⟨g, 0, none⟩) L cap) (by first | rfl | (simp [Oper.about])) (by first | (simp [Region.wanted]; done) | go_simp) (by go_simp) ?_)
          (refine quiet_one (.int .i64 L) (by first | rfl | (simp [Oper.about])) (by first | (simp [Region.wanted]; done) | go_simp) (by go_simp) ?_)
          (refine quiet_one (.int .i64 o.length) (by first | rfl | (simp [Oper.about])) (by first | (simp [Region.wanted]; done) | go_simp) (by go_simp) ?_)
          (refine quiet_one (.pointer (some ⟨g, o.length * 2, none⟩)) (by first | rfl | (simp [Oper.about])) (by first | (simp [Region.wanted]; done) | go_simp) (by go_simp) ?_)
          (refine quiet_one (.pointer (some ⟨g, o.length * 2 + 1, none⟩)) (by first | rfl | (simp [Oper.about])) (by first | (simp [Region.wanted]; done) | go_simp) (by go_simp) ?_)
          (refine quiet_one (.int .i64 sl.til) (by first | rfl | (simp [Oper.about])) (by first | (simp [Region.wanted]; done) | go_simp) (by go_simp) ?_)
          (refine quiet_one (.pointer (some ⟨Bx, 0, none⟩)) (by first | rfl | (simp [Oper.about])) (by first | (simp [Region.wanted]; done) | go_simp) (by go_simp) ?_)
          (refine quiet_one (.int .i64 s.frm) (by first | rfl | (simp [Oper.about])) (by first | (simp [Region.wanted]; done) | go_simp) (by go_simp) ?_)
          (refine quiet_one (.bool false) (by first | rfl | (simp [Oper.about])) (by first | (simp [Region.wanted]; done) | go_simp) (by go_simp) ?_)
          (refine quiet_one (.bool false) (by first | rfl | (simp [Oper.about])) (by first | (simp [Region.wanted]; done) | go_simp) (by go_simp) ?_)
          refine wpQuietIn_nil ?_
          show Exit.then _ _ _ _ _
          go_simp
          have hol := HHOL.out
          have hown4d : OwnL w4.drew (w2.heap.size + 1) 27 2 Spn.cs _ _ := hown4.drew
          have cMd : w4.drew.cell? ⟨w2.heap.size, 0, none⟩ = some _ := cM4
          have fMd : w4.drew.frozen? ⟨w2.heap.size, 0, none⟩ = false := fM4
          gi_wp2_with (gi_at_builtin; go_loud (refine wpListIn_push _ rfl (.tmp 51) (.tmp 53) 23 rfl elemSpn spn_len spn_one rfl ((hown4.alloc _).drew) _ 1 s rfl (news_atd _ _ _ rfl (by simp)) (by first | (simp; done) | (simp at hol ⊢; omega)) (by omega) (by first | (simp; done) | (simp; omega)) ?_); intro v6 w6 hown6 hgrow6'; obtain ⟨A6, c6, rfl, _, _⟩ := hown6.form; have hgrow6 : (w4.drew.alloc (.cells #[.int .i64 s.frm, .int .i64 s.til] 27)).grownBy w6 _ := hgrow6'; clear hgrow6'; have cM6 := hgrow6.cell (cell_alloc_lt cMd) (fun e => by have h : w2.heap.size + 1 ≤ w2.heap.size := (hown4d.lt _ e.symm).1; omega); have fM6 : w6.frozen? ⟨w2.heap.size, 0, none⟩ = false := (World.frozen?_of_block (hgrow6.block w2.heap.size (by simp; omega) (fun e => by have h : w2.heap.size + 1 ≤ w2.heap.size := (hown4d.lt _ e.symm).1; omega))).trans (frozen_alloc_lt ltM4 fMd))
          obtain ⟨e1, e2, e3⟩ := cb_push hI4 hwM hvM4 hown4d hgrow6 hown6 HE.out
          first
            | exact ⟨((KeepsOthers.of_below hb4).trans (keepsOthers_drew _)).trans e1, (((KeepT.refl tOwn U).below hb4).drew).trans e2, e3⟩
            | (simp only [List.length_append, List.length_singleton, Nat.add_assoc, Nat.reduceAdd] at e1 e2 e3; exact ⟨((KeepsOthers.of_below hb4).trans (keepsOthers_drew _)).trans e1, (((KeepT.refl tOwn U).below hb4).drew).trans e2, e3⟩)
  case done =>
    intro D xs U hD hS hI hK
    obtain ⟨q, hse, rfl⟩ := hS
    have HCB := Lib.hid (hse.comb (f := fU) hva hvb rfl)
    have hcl := combP_len fU (runS q).1
    have hrl := runS_len q
    rw [hse.len] at hrl
    have hI' := cbI_soft hI (soft_putc hD hK rfl (.deferred none)) (by omega)
    have hBL := hI'.below
    obtain ⟨v, hvM, hown⟩ := hI.out
    obtain ⟨v', hvM', hown'⟩ := hI'.out
    have evv : v' = v := by
      have h1 := (World.putObj_heap_other (o := .deferred none) (w := U) (r := D) (k := w2.heap.size) (by omega)).trans hvM
      rw [hvM'] at h1
      injection h1 with h1
      injection h1 with h1
      simpa using h1
    subst evv
    generalize combP fU (runS q).1 = out at *
    obtain ⟨Ao, co, rfl, hco, _, hso⟩ := hown'.sl spn_len
    have cM : U.cell? ⟨w2.heap.size, 0, none⟩ = some (.slice Ao out.length co) := by rw [cell_of_row U _ 0 _ _ _ hvM]; rfl
    have hol : ¬ (1000 : Int) < (out.length : Int) := by omega
    have hol' : decide ((1000 : Int) < (out.length : Int)) = false := by simpa using hol
    gi_wp2
    refine ⟨by simp, .inl ⟨_, _, rfl, run_takeDeferred hK, ?_⟩⟩
    refine ⟨.tuple #[.slice Ao out.length co, .int .i64 0], ?_, ⟨out, Ao, ⟨co, rfl⟩, hso, HCB.out, by omega⟩, hBL⟩
    simp [results, Try.results47, go_sem]
theorem comb_m (a b : List Spn) (A B : Option Addr) (c d : Nat) (w : World) (ha : SlSpn w A a) (hb : SlSpn w B b) (hva : setOk a = true) (hvb : setOk b = true) (hlen : 2 * (a.length + b.length) ≤ 1000) :
    Calls Try.prog 47 #[.slice A a.length c, .slice B b.length d, .func (.func 54) #[] #[]] w fun e w' => (∃ r A' c', e = .returned (.tuple #[.slice A' r.length c', .int .i64 0]) ∧ SlSpn w' A' r ∧ IsComb fM a b r ∧ r.length ≤ 2 * (a.length + b.length)) ∧ Below w.heap.size w w' := by
  have hla : a.length ≤ 140737488355328 := by omega
  have hlb : b.length ≤ 140737488355328 := by omega
  have HS1 : Hid True := Lib.hid trivial
  have hB0 : Below w.heap.size w (w.alloc (.cells #[.func (.func 54) #[] #[]] 67)) := (Below.refl _ _).alloc (Nat.le_refl _) _
  refine (callsIn_wide (n := 9)).1 ?_
  refine callsIn_of_wp_marks Try.func47 rfl trivial ?_ rfl
  simp only [Try.ntmps47, List.size_toArray, List.length_cons, List.length_nil, Nat.reduceAdd, Nat.reduceSub, Array.replicate_succ, Array.replicate_zero, List.push_toArray, List.append_toArray, List.nil_append, List.cons_append]
  gi_wp2_with (first | (have _ := HS1; clear HS1; refine ⟨trivial, ?_⟩; gi_at_call 43; refine (callsIn_wide.2 (valid_any a A c _ (ha.up (by repeat' (first | (with_reducible exact Below.refl _ _) | (with_reducible assumption) | (with_reducible refine below_drewN ?_ _) | (with_reducible refine Below.drew ?_) | (with_reducible refine below_regrown_up _ _ ?_ ?_) | (with_reducible refine Below.alloc ?_ ?_ _) | (with_reducible refine Below.setCell ?_ ?_ _) | (with_reducible refine below_up ?_ ?_ (by assumption)) | (with_reducible exact Nat.le_refl _) | omega | (simp; done) | (simp; omega)))) hla)).mono ?_; rintro e w1 ⟨rfl, hb1⟩; have hz1 := hb1.size; (try simp only [World.size_alloc, World.size_setCell, World.size_drew, size_drewN', size_grow, size_redrawn] at hz1); obtain ⟨hc1, hf1⟩ := bcellB (B := w.heap.size + 1) hb1 (by first | omega | (simp only [World.size_alloc, World.size_setCell, World.size_drew, size_drewN', size_grow, size_redrawn]; omega)); rw [hva]) | (refine ⟨trivial, ?_⟩; gi_at_call 43; refine (callsIn_wide.2 (valid_any b B d _ (hb.up (below_up hB0 (by simp) hb1)) hlb)).mono ?_; rintro e w2 ⟨rfl, hb2⟩; have hz2 := hb2.size; (try simp only [World.size_alloc, World.size_setCell, World.size_drew, size_drewN', size_grow, size_redrawn] at hz2); obtain ⟨hc2, hf2⟩ := bcellB (B := w.heap.size + 1) hb2 (by first | omega | (simp only [World.size_alloc, World.size_setCell, World.size_drew, size_drewN', size_grow, size_redrawn]; omega)); rw [hvb]) | (refine ⟨trivial, ?_⟩; gi_at_call 55; refine (callsIn_wide.2 (pieces_any A B a.length c b.length d _)).mono ?_; rintro e w3 ⟨rfl, hw3⟩))
  have hB2 := below_up (below_up hB0 (by simp) hb1) (by omega) hb2
  have hws : w3.heap.size = w2.heap.size + 1 + 1 + 1 := by rw [hw3]; simp
  have hb23 : Below w2.heap.size w2 w3 := by
    rw [hw3]
    repeat' (first
      | (with_reducible exact Below.refl _ _)
      | (with_reducible assumption)
      | (with_reducible refine below_drewN ?_ _)
      | (with_reducible refine Below.drew ?_)
      | (with_reducible refine below_regrown_up _ _ ?_ ?_)
      | (with_reducible refine Below.alloc ?_ ?_ _)
      | (with_reducible refine Below.setCell ?_ ?_ _)
      | (with_reducible refine below_up ?_ ?_ (by assumption))
      | (with_reducible exact Nat.le_refl _)
      | omega
      | (simp; done)
      | (simp; omega))
  have hB3 := below_up hB2 hB2.size hb23
  have k1 : w3.cell? ⟨w2.heap.size + 1, 0, none⟩ = some (.slice A a.length c) := by rw [hw3]; go_simp
  have k2 : w3.cell? ⟨w2.heap.size + 1 + 1, 0, none⟩ = some (.slice B b.length d) := by rw [hw3]; go_simp
  have kM : w3.heap[w2.heap.size]? = some (.cells #[.slice none 0 0] 23 (0, 0)) := by
    rw [hw3]
    exact (Below.heap_alloc _ _ _ (by simp; omega)).trans ((Below.heap_alloc _ _ _ (by simp)).trans (heap_alloc_new w2 _))
  have kC : w3.heap[w.heap.size]? = some (.cells #[.func (.func 54) #[] #[]] 67 (0, 0)) :=
    (hb23.block _ (by omega)).trans ((hb2.block _ (by omega)).trans ((hb1.block _ (by simp)).trans (heap_alloc_new w _)))
  have h00 : CbI w w2.heap.size (.func (.func 54) #[] #[]) fM [] w3 := ⟨⟨_, kM, OwnL.nil_⟩, kC, by omega, hB3⟩
  have hseq : SeqT tOwn Fence.wide 8 Try.prog 58 #[.pointer (some ⟨w2.heap.size + 1, 0, none⟩), .pointer (some ⟨w2.heap.size + 1 + 1, 0, none⟩)] Piece.args (fun xs => ∃ q, SortedEnds a b q ∧ xs = (runS q).1) (2 * (a.length + b.length)) w3 := fun l J W hW hJ hY h0 =>
    pcs_in 8 (by omega) l (w2.heap.size + 1) (w2.heap.size + 1 + 1) a b A B c d J W hva hvb hJ hY
      ((hW.cell (p := ⟨w2.heap.size + 1, 0, none⟩) (by simp only; omega)).trans k1) ((hW.cell (p := ⟨w2.heap.size + 1 + 1, 0, none⟩) (by simp only; omega)).trans k2) (ha.up (below_up hB3 hB3.size hW)) (hb.up (below_up hB3 hB3.size hW)) h0
  clear k1 k2 kM kC
  (try rw [← hw3])
  refine wpIn_rangeFuncT (T := tOwn) (w := w3) rfl (by omega) (gf := 58) (lb := #[.pointer (some ⟨w2.heap.size + 1, 0, none⟩), .pointer (some ⟨w2.heap.size + 1 + 1, 0, none⟩)]) rfl trivial (enters_of Try.func58 (by kernel_rfl) rfl) hseq (fun _ => rfl)
    (CbI w w2.heap.size (.func (.func 54) #[] #[]) fM) (fun x a' U => ∃ Bx, Bx + 1 < U.heap.size ∧ U.cell? ⟨Bx, 0, none⟩ = some (.int .i64 x.1.frm) ∧ U.cell? ⟨Bx, 1, none⟩ = some (.int .i64 x.1.til) ∧ U.cell? ⟨Bx + 1, 0, none⟩ = some (.bool x.2.1) ∧ U.cell? ⟨Bx + 1, 1, none⟩ = some (.bool x.2.2) ∧ a' = { tmps := #[.slice A a.length c, .slice B b.length d, .func (.func 54) #[] #[], undef, undef, .pointer (some { block := w.heap.size, off := 0 }), .slice none 0 0, .int .i64 0, .pointer (some { block := w2.heap.size, off := 0 }), .pointer (some { block := Bx, off := 0 }), .pointer (some { block := Bx + 1, off := 0 }), undef, .slice A a.length c, .bool true, .bool false, .bool false, .slice B b.length d, .bool true, .bool false, .bool false, .slice A a.length c, .slice B b.length d, .func (.func 58) #[] #[.pointer (some { block := w2.heap.size + 1, off := 0 }), .pointer (some { block := w2.heap.size + 1 + 1, off := 0 })], x.1.v, .agg #[.bool x.2.1, .bool x.2.2], undef, undef, undef, undef, undef, undef, undef, undef, undef, undef, undef, undef, undef, undef, undef, undef, undef, undef, undef, undef, undef, undef, undef, undef, undef, undef, undef, undef, undef, undef, undef, undef, undef, undef], defers := [] })
    (fun pre U U' h hm => cbI_soft h (soft_mild hm) (by omega)) (fun pre U l r o' h hl hr => cbI_soft h (soft_put hl hr o') (by omega)) (fun x a' U l r o' h hr => by
      obtain ⟨Bx, h1, h2, h3, h4, h5, h6⟩ := h
      exact ⟨Bx, by simp [World.putObj]; exact h1, cell_put hr h2, cell_put hr h3, cell_put hr h4, cell_put hr h5, h6⟩) h00 ?assign ?body ?done
  case assign =>
    intro l pre x U K hI hK
    dsimp only [Piece.args]
    gi_wp2
    refine hK _ _ ((KeepsOthers.alloc _ _).trans (KeepsOthers.alloc _ _)) (((KeepT.refl tOwn U).alloc _).alloc _) (cbI_soft hI (soft_mild (((Mild.refl tOwn U.heap.size U).alloc _).alloc _)) (by have := hI.size; have := hI.below.size; omega)) ⟨U.heap.size, by simp, by go_simp, by go_simp, by go_simp, by go_simp, rfl⟩
  case body =>
    intro l pre x a' U hI hax hln
    obtain ⟨Bx, hBx, x0, x1, y0, y1, rfl⟩ := hax
    dsimp only []
    obtain ⟨v, hvM, hown⟩ := hI.out
    have hUz := hI.size
    have hUw := hI.below.size
    have cM : U.cell? ⟨w2.heap.size, 0, none⟩ = some v := by rw [cell_of_row U _ 0 _ _ _ hvM]; rfl
    have frM : U.frozen? ⟨w2.heap.size, 0, none⟩ = false := by unfold World.frozen?; simp [hvM]
    have cC : U.cell? ⟨w.heap.size, 0, none⟩ = some (.func (.func 54) #[] #[]) := by rw [cell_of_row U _ 0 _ _ _ hI.clo]; rfl
    obtain ⟨s, p, q⟩ := x
    simp only at *
    have hpl := combP_len fM pre
    have hsn := combP_snoc fM pre (s, p, q)
    simp only at hsn
    cases hf : fM p q with
    | false =>
      rw [hf, if_neg (by simp)] at hsn
      have HSN := Lib.hid hsn
      clear hsn
      gi_wp2_with (refine ⟨trivial, ?_⟩; gi_at_call 54; refine (CallsIn.inRound l (callsIn_wide.2 (clo_m p q _))).mono ?_; rintro e w4 ⟨rfl, hb4⟩; rw [hf])
      exact ⟨KeepsOthers.of_below hb4, (KeepT.refl tOwn U).below hb4, by
        have h := cbI_soft hI (soft_mild ((Mild.refl tOwn U.heap.size U).below hb4)) (by omega)
        exact ⟨by rw [HSN.out]; exact h.out, h.clo, h.size, h.below⟩⟩
    | true =>
      rw [hf, if_pos rfl] at hsn
      have HSN := Lib.hid hsn
      clear hsn
      have hwM : w.heap.size < w2.heap.size := by omega
      have ltM : w2.heap.size < U.heap.size := by omega
      have ltB : Bx < U.heap.size := by omega
      have hpn : pre.length ≤ 1000 := by omega
      generalize hout : combP fM pre = out at *
      rcases split_last out with hno | ⟨o, sl, hno⟩
      · subst hno
        have HE : Hid (combP fM (pre ++ [(s, p, q)]) = [] ++ [s]) := Lib.hid (by rw [HSN.out]; rfl)
        obtain ⟨Ao, co, rfl, hco, _, hso⟩ := hown.sl spn_len
        gi_wp2_with (refine ⟨trivial, ?_⟩; gi_at_call 54; refine (CallsIn.inRound l (callsIn_wide.2 (clo_m p q _))).mono ?_; rintro e w4 ⟨rfl, hb4⟩; rw [hf]; have hz4 := hb4.size; have cM4 := (hb4.cell (p := ⟨w2.heap.size, 0, none⟩) ltM).trans cM; have fM4 := (hb4.frozen (p := ⟨w2.heap.size, 0, none⟩) ltM).trans frM; have x04 := (hb4.cell (p := ⟨Bx, 0, none⟩) ltB).trans x0; have x14 := (hb4.cell (p := ⟨Bx, 1, none⟩) ltB).trans x1)
        have ltM4 : w2.heap.size < w4.heap.size := by omega
        have ltB4 : Bx < w4.heap.size := by omega
        have hI4 := cbI_soft hI (soft_mild (((Mild.refl tOwn U.heap.size U).below hb4).drew)) (by omega)
        have hown4 : OwnL w4 (w2.heap.size + 1) 27 2 Spn.cs (.slice Ao 0 co) [] := hown.below hb4
        have hvM4 : w4.drew.heap[w2.heap.size]? = some (.cells #[.slice Ao 0 co] 23 (0, 0)) := (hb4.block _ ltM).trans hvM
        refine region_round_quiet rfl (by kernel_rfl) (by kernel_rfl) (by kernel_rfl) (by kernel_rfl) ?_
        (refine quiet_one (.int .i64 0) (by first | rfl | (simp [Oper.about])) (by first | (simp [Region.wanted]; done) | go_simp) (by go_simp) ?_)
        (refine quiet_one (.bool false) (by first | rfl | (simp [Oper.about])) (by first | (simp [Region.wanted]; done) | go_simp) (by go_simp) ?_)
        (refine quiet_one (.bool false) (by first | rfl | (simp [Oper.about])) (by first | (simp [Region.wanted]; done) | go_simp) (by go_simp) ?_)
        (refine quiet_skip (by first | rfl | (simp [Oper.about])) (by go_simp) ?_)
        (refine quiet_skip (by first | rfl | (simp [Oper.about])) (by go_simp) ?_)
        (refine quiet_skip (by first | rfl | (simp [Oper.about])) (by go_simp) ?_)
        (refine quiet_skip (by first | rfl | (simp [Oper.about])) (by go_simp) ?_)
        (refine quiet_skip (by first | rfl | (simp [Oper.about])) (by go_simp) ?_)
        (refine quiet_skip (by first | rfl | (simp [Oper.about])) (by go_simp) ?_)
        (refine quiet_skip (by first | rfl | (simp [Oper.about])) (by go_simp) ?_)
        (refine quiet_skip (by first | rfl | (simp [Oper.about])) (by go_simp) ?_)
        (refine quiet_skip (by first | rfl | (simp [Oper.about])) (by go_simp) ?_)
        (refine quiet_one (.bool false) (by first | rfl | (simp [Oper.about])) (by first | (simp [Region.wanted]; done) | go_simp) (by go_simp) ?_)
        refine wpQuietIn_nil ?_
        show Exit.then _ _ _ _ _
        go_simp
        have hol : ([] : List Spn).length ≤ 1000 := by simp
        have hown4d : OwnL w4.drew (w2.heap.size + 1) 27 2 Spn.cs _ _ := hown4.drew
        have cMd : w4.drew.cell? ⟨w2.heap.size, 0, none⟩ = some _ := cM4
        have fMd : w4.drew.frozen? ⟨w2.heap.size, 0, none⟩ = false := fM4
        gi_wp2_with (gi_at_builtin; go_loud (refine wpListIn_push _ rfl (.tmp 51) (.tmp 53) 23 rfl elemSpn spn_len spn_one rfl ((hown4.alloc _).drew) _ 1 s rfl (news_atd _ _ _ rfl (by simp)) (by first | (simp; done) | (simp at hol ⊢; omega)) (by omega) (by first | (simp; done) | (simp; omega)) ?_); intro v6 w6 hown6 hgrow6'; obtain ⟨A6, c6, rfl, _, _⟩ := hown6.form; have hgrow6 : (w4.drew.alloc (.cells #[.int .i64 s.frm, .int .i64 s.til] 27)).grownBy w6 _ := hgrow6'; clear hgrow6'; have cM6 := hgrow6.cell (cell_alloc_lt cMd) (fun e => by have h : w2.heap.size + 1 ≤ w2.heap.size := (hown4d.lt _ e.symm).1; omega); have fM6 : w6.frozen? ⟨w2.heap.size, 0, none⟩ = false := (World.frozen?_of_block (hgrow6.block w2.heap.size (by simp; omega) (fun e => by have h : w2.heap.size + 1 ≤ w2.heap.size := (hown4d.lt _ e.symm).1; omega))).trans (frozen_alloc_lt ltM4 fMd))
        obtain ⟨e1, e2, e3⟩ := cb_push hI4 hwM hvM4 hown4d hgrow6 hown6 HE.out
        first
          | exact ⟨((KeepsOthers.of_below hb4).trans (keepsOthers_drew _)).trans e1, (((KeepT.refl tOwn U).below hb4).drew).trans e2, e3⟩
          | (simp only [List.length_append, List.length_singleton, Nat.add_assoc, Nat.reduceAdd] at e1 e2 e3; exact ⟨((KeepsOthers.of_below hb4).trans (keepsOthers_drew _)).trans e1, (((KeepT.refl tOwn U).below hb4).drew).trans e2, e3⟩)
      · subst hno
        have hol : (o ++ [sl]).length ≤ 1000 := by omega
        obtain ⟨g, cap, hvv, hgb, hgl, hcap, hsl, hfz⟩ := own_open spn_len hown (by simp)
        subst hvv
        have q1 := (hsl.cells (k := o.length) (by simp)).2 1 (.int .i64 sl.til) (by simp [Spn.cs])
        rw [Nat.zero_add] at q1
        have f1 := hfz (o.length * 2 + 1)
        have HHOL := Lib.hid hol
        generalize hL : (o ++ [sl]).length = L at *
        have hL' : L = o.length + 1 := by rw [← hL, List.length_append]; rfl
        have hw1 : IntKind.i64.wrap ((L : Int) - 1) = (o.length : Int) := by rw [IntWalk.i64_in _ (by omega)]; omega
        have hx0 : (0 : Int) < (L : Int) := by omega
        have hx1 : (0 : Int) ≤ (o.length : Int) := by omega
        have hx2 : (o.length : Int) < (L : Int) := by omega
        have hx3 : o.length < L := by omega
        have hL0 : 0 < L := by omega
        have HL := Lib.hid hL
        have HL' := Lib.hid hL'
        clear hL hL' hsl hfz hcap
        by_cases hst : sl.til = s.frm
        · have hsb : (sl.til == s.frm) = true := by simpa using hst
          have HE : Hid (combP fM (pre ++ [(s, p, q)]) = o ++ [⟨sl.frm, s.til⟩]) := Lib.hid (by rw [HSN.out]; exact mstep_join hst)
          clear hst
          gi_wp2_with (refine ⟨trivial, ?_⟩; gi_at_call 54; refine (CallsIn.inRound l (callsIn_wide.2 (clo_m p q _))).mono ?_; rintro e w4 ⟨rfl, hb4⟩; rw [hf]; have hz4 := hb4.size; have cM4 := (hb4.cell (p := ⟨w2.heap.size, 0, none⟩) ltM).trans cM; have fM4 := (hb4.frozen (p := ⟨w2.heap.size, 0, none⟩) ltM).trans frM; have x04 := (hb4.cell (p := ⟨Bx, 0, none⟩) ltB).trans x0; have x14 := (hb4.cell (p := ⟨Bx, 1, none⟩) ltB).trans x1)
          have ltM4 : w2.heap.size < w4.heap.size := by omega
          have ltB4 : Bx < w4.heap.size := by omega
          have hI4 := cbI_soft hI (soft_mild (((Mild.refl tOwn U.heap.size U).below hb4).drew)) (by omega)
          have hown4 : OwnL w4 (w2.heap.size + 1) 27 2 Spn.cs (.slice (some ⟨g, 0, none⟩) L cap) (o ++ [sl]) := hown.below hb4
          have hvM4 : w4.drew.heap[w2.heap.size]? = some (.cells #[.slice (some ⟨g, 0, none⟩) L cap] 23 (0, 0)) := (hb4.block _ ltM).trans hvM
          have q14 := (hb4.cell (p := ⟨g, o.length * 2 + 1, none⟩) hgl).trans q1
          have f14 := (hb4.frozen (p := ⟨g, o.length * 2 + 1, none⟩) hgl).trans f1
          refine region_round_quiet rfl (by kernel_rfl) (by kernel_rfl) (by kernel_rfl) (by kernel_rfl) ?_
          (refine quiet_one (.int .i64 L) (by first | rfl | (simp [Oper.about])) (by first | (simp [Region.wanted]; done) | go_simp) (by go_simp) ?_)
          (refine quiet_one (.bool true) (by first | rfl | (simp [Oper.about])) (by first | (simp [Region.wanted]; done) | go_simp) (by go_simp) ?_)
          (refine quiet_one (.bool true) (by first | rfl | (simp [Oper.about])) (by first | (simp [Region.wanted]; done) | go_simp) (by go_simp) ?_)
          (refine quiet_one (.slice (some ⟨g, 0, none⟩) L cap) (by first | rfl | (simp [Oper.about])) (by first | (simp [Region.wanted]; done) | go_simp) (by go_simp) ?_)
          (refine quiet_one (.int .i64 L) (by first | rfl | (simp [Oper.about])) (by first | (simp [Region.wanted]; done) | go_simp) (by go_simp) ?_)
          (refine quiet_one (.int .i64 o.length) (by first | rfl | (simp [Oper.about])) (by first | (simp [Region.wanted]; done) | go_simp) (by go_simp) ?_)
          (refine quiet_one (.pointer (some ⟨g, o.length * 2, none⟩)) (by first | rfl | (simp [Oper.about])) (by first | (simp [Region.wanted]; done) | go_simp) (by go_simp) ?_)
          (refine quiet_one (.pointer (some ⟨g, o.length * 2 + 1, none⟩)) (by first | rfl | (simp [Oper.about])) (by first | (simp [Region.wanted]; done) | go_simp) (by go_simp) ?_)
          (refine quiet_one (.int .i64 sl.til) (by first | rfl | (simp [Oper.about])) (by first | (simp [Region.wanted]; done) | go_simp) (by go_simp) ?_)
          (refine quiet_one (.pointer (some ⟨Bx, 0, none⟩)) (by first | rfl | (simp [Oper.about])) (by first | (simp [Region.wanted]; done) | go_simp) (by go_simp) ?_)
          (refine quiet_one (.int .i64 s.frm) (by first | rfl | (simp [Oper.about])) (by first | (simp [Region.wanted]; done) | go_simp) (by go_simp) ?_)
          (refine quiet_one (.bool true) (by first | rfl | (simp [Oper.about])) (by first | (simp [Region.wanted]; done) | go_simp) (by go_simp) ?_)
          (refine quiet_one (.bool true) (by first | rfl | (simp [Oper.about])) (by first | (simp [Region.wanted]; done) | go_simp) (by go_simp) ?_)
          refine wpQuietIn_nil ?_
          show Exit.then _ _ _ _ _
          go_simp
          gi_wp2
          obtain ⟨e1, e2, e3⟩ := cb_store hI4 hwM hvM4 hown4.drew hL0 HE.out rfl
          exact ⟨((KeepsOthers.of_below hb4).trans (keepsOthers_drew _)).trans e1, (((KeepT.refl tOwn U).below hb4).drew).trans e2, e3⟩
        · have hsb : (sl.til == s.frm) = false := by simpa using hst
          have HE : Hid (combP fM (pre ++ [(s, p, q)]) = o ++ [sl] ++ [s]) := Lib.hid (by rw [HSN.out]; exact mstep_new hst)
          clear hst
          gi_wp2_with (refine ⟨trivial, ?_⟩; gi_at_call 54; refine (CallsIn.inRound l (callsIn_wide.2 (clo_m p q _))).mono ?_; rintro e w4 ⟨rfl, hb4⟩; rw [hf]; have hz4 := hb4.size; have cM4 := (hb4.cell (p := ⟨w2.heap.size, 0, none⟩) ltM).trans cM; have fM4 := (hb4.frozen (p := ⟨w2.heap.size, 0, none⟩) ltM).trans frM; have x04 := (hb4.cell (p := ⟨Bx, 0, none⟩) ltB).trans x0; have x14 := (hb4.cell (p := ⟨Bx, 1, none⟩) ltB).trans x1)
          have ltM4 : w2.heap.size < w4.heap.size := by omega
          have ltB4 : Bx < w4.heap.size := by omega
          have hI4 := cbI_soft hI (soft_mild (((Mild.refl tOwn U.heap.size U).below hb4).drew)) (by omega)
          have hown4 : OwnL w4 (w2.heap.size + 1) 27 2 Spn.cs (.slice (some ⟨g, 0, none⟩) L cap) (o ++ [sl]) := hown.below hb4
          have hvM4 : w4.drew.heap[w2.heap.size]? = some (.cells #[.slice (some ⟨g, 0, none⟩) L cap] 23 (0, 0)) := (hb4.block _ ltM).trans hvM
          have q14 := (hb4.cell (p := ⟨g, o.length * 2 + 1, none⟩) hgl).trans q1
          have f14 := (hb4.frozen (p := ⟨g, o.length * 2 + 1, none⟩) hgl).trans f1
          refine region_round_quiet rfl (by kernel_rfl) (by kernel_rfl) (by kernel_rfl) (by kernel_rfl) ?_
          (refine quiet_one (.int .i64 L) (by first | rfl | (simp [Oper.about])) (by first | (simp [Region.wanted]; done) | go_simp) (by go_simp) ?_)
          (refine quiet_one (.bool true) (by first | rfl | (simp [Oper.about])) (by first | (simp [Region.wanted]; done) | go_simp) (by go_simp) ?_)
          (refine quiet_one (.bool true) (by first | rfl | (simp [Oper.about])) (by first | (simp [Region.wanted]; done) | go_simp) (by go_simp) ?_)
          (refine quiet_one (.slice (some ⟨g, 0, none⟩) L cap) (by first | rfl | (simp [Oper.about])) (by first | (simp [Region.wanted]; done) | go_simp) (by go_simp) ?_)
          (refine quiet_one (.int .i64 L) (by first | rfl | (simp [Oper.about])) (by first | (simp [Region.wanted]; done) | go_simp) (by go_simp) ?_)
          (refine quiet_one (.int .i64 o.length) (by first | rfl | (simp [Oper.about])) (by first | (simp [Region.wanted]; done) | go_simp) (by go_simp) ?_)
          (refine quiet_one (.pointer (some ⟨g, o.length * 2, none⟩)) (by first | rfl | (simp [Oper.about])) (by first | (simp [Region.wanted]; done) | go_simp) (by go_simp) ?_)
          (refine quiet_one (.pointer (some ⟨g, o.length * 2 + 1, none⟩)) (by first | rfl | (simp [Oper.about])) (by first | (simp [Region.wanted]; done) | go_simp) (by go_simp) ?_)
          (refine quiet_one (.int .i64 sl.til) (by first | rfl | (simp [Oper.about])) (by first | (simp [Region.wanted]; done) | go_simp) (by go_simp) ?_)
          (refine quiet_one (.pointer (some ⟨Bx, 0, none⟩)) (by first | rfl | (simp [Oper.about])) (by first | (simp [Region.wanted]; done) | go_simp) (by go_simp) ?_)
          (refine quiet_one (.int .i64 s.frm) (by first | rfl | (simp [Oper.about])) (by first | (simp [Region.wanted]; done) | go_simp) (by go_simp) ?_)
          (refine quiet_one (.bool false) (by first | rfl | (simp [Oper.about])) (by first | (simp [Region.wanted]; done) | go_simp) (by go_simp) ?_)
          (refine quiet_one (.bool false) (by first | rfl | (simp [Oper.about])) (by first | (simp [Region.wanted]; done) | go_simp) (by go_simp) ?_)
          refine wpQuietIn_nil ?_
          show Exit.then _ _ _ _ _
          go_simp
          have hol := HHOL.out
          have hown4d : OwnL w4.drew (w2.heap.size + 1) 27 2 Spn.cs _ _ := hown4.drew
          have cMd : w4.drew.cell? ⟨w2.heap.size, 0, none⟩ = some _ := cM4
          have fMd : w4.drew.frozen? ⟨w2.heap.size, 0, none⟩ = false := fM4
          gi_wp2_with (gi_at_builtin; go_loud (refine wpListIn_push _ rfl (.tmp 51) (.tmp 53) 23 rfl elemSpn spn_len spn_one rfl ((hown4.alloc _).drew) _ 1 s rfl (news_atd _ _ _ rfl (by simp)) (by first | (simp; done) | (simp at hol ⊢; omega)) (by omega) (by first | (simp; done) | (simp; omega)) ?_); intro v6 w6 hown6 hgrow6'; obtain ⟨A6, c6, rfl, _, _⟩ := hown6.form; have hgrow6 : (w4.drew.alloc (.cells #[.int .i64 s.frm, .int .i64 s.til] 27)).grownBy w6 _ := hgrow6'; clear hgrow6'; have cM6 := hgrow6.cell (cell_alloc_lt cMd) (fun e => by have h : w2.heap.size + 1 ≤ w2.heap.size := (hown4d.lt _ e.symm).1; omega); have fM6 : w6.frozen? ⟨w2.heap.size, 0, none⟩ = false := (World.frozen?_of_block (hgrow6.block w2.heap.size (by simp; omega) (fun e => by have h : w2.heap.size + 1 ≤ w2.heap.size := (hown4d.lt _ e.symm).1; omega))).trans (frozen_alloc_lt ltM4 fMd))
          obtain ⟨e1, e2, e3⟩ := cb_push hI4 hwM hvM4 hown4d hgrow6 hown6 HE.out
          first
            | exact ⟨((KeepsOthers.of_below hb4).trans (keepsOthers_drew _)).trans e1, (((KeepT.refl tOwn U).below hb4).drew).trans e2, e3⟩
            | (simp only [List.length_append, List.length_singleton, Nat.add_assoc, Nat.reduceAdd] at e1 e2 e3; exact ⟨((KeepsOthers.of_below hb4).trans (keepsOthers_drew _)).trans e1, (((KeepT.refl tOwn U).below hb4).drew).trans e2, e3⟩)
  case done =>
    intro D xs U hD hS hI hK
    obtain ⟨q, hse, rfl⟩ := hS
    have HCB := Lib.hid (hse.comb (f := fM) hva hvb rfl)
    have hcl := combP_len fM (runS q).1
    have hrl := runS_len q
    rw [hse.len] at hrl
    have hI' := cbI_soft hI (soft_putc hD hK rfl (.deferred none)) (by omega)
    have hBL := hI'.below
    obtain ⟨v, hvM, hown⟩ := hI.out
    obtain ⟨v', hvM', hown'⟩ := hI'.out
    have evv : v' = v := by
      have h1 := (World.putObj_heap_other (o := .deferred none) (w := U) (r := D) (k := w2.heap.size) (by omega)).trans hvM
      rw [hvM'] at h1
      injection h1 with h1
      injection h1 with h1
      simpa using h1
    subst evv
    generalize combP fM (runS q).1 = out at *
    obtain ⟨Ao, co, rfl, hco, _, hso⟩ := hown'.sl spn_len
    have cM : U.cell? ⟨w2.heap.size, 0, none⟩ = some (.slice Ao out.length co) := by rw [cell_of_row U _ 0 _ _ _ hvM]; rfl
    have hol : ¬ (1000 : Int) < (out.length : Int) := by omega
    have hol' : decide ((1000 : Int) < (out.length : Int)) = false := by simpa using hol
    gi_wp2
    refine ⟨by simp, .inl ⟨_, _, rfl, run_takeDeferred hK, ?_⟩⟩
    refine ⟨.tuple #[.slice Ao out.length co, .int .i64 0], ?_, ⟨out, Ao, ⟨co, rfl⟩, hso, HCB.out, by omega⟩, hBL⟩
    simp [results, Try.results47, go_sem]
end Go.Proofs.Ytphapnooonjnmaa
