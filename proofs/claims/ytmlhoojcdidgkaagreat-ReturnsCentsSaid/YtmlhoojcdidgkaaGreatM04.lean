/-
  Texts, one behind the other: Tax4, Tax5, Iter, Tax6.
-/
import Derived.Test.YtmlhoojcdidgkaaGreatM03
import Derived.RangeFuncNested
import Derived.RangeFuncBound
import Derived.RangeFuncCalls
import Derived.RangeFuncLeaves
import Derived.RangeFuncBox
import Derived.Shelf.Abstract
import Derived.Shelf.RegionOpen
import Derived.OwnWalkIn
import Derived.TacticsInMore
import Derived.LoopNIn
import Derived.LoopIn
import Derived.Maps.OwnIn
import Derived.Test.YtmlhoojcdidgkaaGreatM01
import Derived.Deep.RegionLaw
/-
  Contracts of the reference of package tax: lists of taxes.
-/
namespace Go.Proofs.YtmlhoojcdidgkaaGreat
set_option linter.unusedSimpArgs false
set_option linter.unusedVariables false
open Go.RowKit Go.Maps
open Go.Sort (grow size_grow)

set_option maxHeartbeats 2000000
set_option maxRecDepth 100000

theorem rtvalid_any (l : List Tax) (A : Option Addr) (c : Nat) (w : World) (hs : SlTax w A l) (hl : l.length ≤ 1000000000000) :
    Calls Tryz.prog 11 #[.slice A l.length c] w fun e w' => e = .returned (.bool (taxesOk l)) ∧ Below w.heap.size w w' := by
  by_cases h50 : l.length ≤ 50
  · have h5 : (l.length : Int) ≤ 50 := by omega
    go_enter Tryz.func11, Tryz.ntmps11
    go_wp2
    go_loopw [3] (fun k wr => ∃ m : Nat, m ≤ l.length ∧ k = .int .i64 m ∧ Hid (∀ j (h : j < l.length), j < m → l[j].ok = true) ∧ Hid (∀ j k (hj : j < l.length) (hk : k < l.length), j < k → k < m → l[j].id ≠ l[k].id) ∧ Below w.heap.size w wr) (fun k _ => l.length - (intOf k).toNat)
    case atStart => exact ⟨0, by omega, rfl, Lib.hid (fun j _ h => absurd h (by omega)), Lib.hid (fun j k _ _ _ h => absurd h (by omega)), Below.refl _ _⟩
    case round =>
      obtain ⟨m, hm, rfl, hn1, hn2, hbw⟩ := hrel
      have hbz := hbw.size
      by_cases hlt : m < l.length
      · obtain ⟨b, off, rfl, hbl, hcell⟩ := (hs.below hbw).at_ hlt
        have q0 := hcell 0 _ rfl
        have q1 := hcell 1 _ rfl
        have q2 := hcell 2 _ rfl
        have q3 := hcell 3 _ rfl
        have q4 := hcell 4 _ rfl
        have q5 := hcell 5 _ rfl
        have q6 := hcell 6 _ rfl
        rw [Nat.add_zero] at q0
        have hat := hs
        have HC := Lib.hid hat
        clear hat hcell
        cases hok : l[m].ok with
        | false =>
          go_wp2_with (go_at_call 26; refine (rtax_any l[m] _).mono ?_; rintro e w1 ⟨rfl, hb1⟩; rw [hok])
          go_ret
          refine ⟨ret_bool ?_, ?_⟩
          · exact (taxesOk_bad hlt hok).symm
          · repeat' (first
              | (with_reducible exact Below.refl _ _)
              | (with_reducible assumption)
              | (with_reducible refine below_drewN ?_ _)
              | (with_reducible refine Below.drew ?_)
              | (with_reducible refine below_regrown_up _ _ ?_ ?_)
              | (with_reducible refine Below.alloc ?_ ?_ _)
              | (with_reducible refine Below.setCell ?_ ?_ _)
              | (with_reducible refine below_up ?_ ?_ (by assumption))
              | (with_reducible exact Nat.le_refl _)
              | omega
              | (simp; done)
              | (simp; omega))
        | true =>
          go_wp2_with (go_at_call 26; refine (rtax_any l[m] _).mono ?_; rintro e w1 ⟨rfl, hb1⟩; have hz1 := hb1.size; (try simp only [World.size_alloc, World.size_setCell, World.size_drew, size_drewN', size_grow, size_redrawn] at hz1); obtain ⟨hc1, hf1⟩ := bcellB (B := w.heap.size) hb1 (by first | omega | (simp only [World.size_alloc, World.size_setCell, World.size_drew, size_drewN', size_grow, size_redrawn]; omega)); rw [hok])
          have hcell2 := HC.out
          have hbw1 := below_up hbw hbz hb1
          have q0' : w1.cell? ⟨b, off + m * 7, none⟩ = some (.int .i64 l[m].id) := (hc1 b _ hbl).trans q0
          clear q0 q1 q2 q3 q4 q5 q6
          go_loopw [5] (fun k wr2 => ∃ n : Nat, n ≤ m ∧ k = .int .i64 n ∧ Hid (∀ j (h : j < l.length), j < n → l[j].id ≠ l[m].id) ∧ Below w1.heap.size w1 wr2) (fun k _ => m - (intOf k).toNat)
          case atStart => exact ⟨0, by omega, rfl, Lib.hid (fun j _ h => absurd h (by omega)), Below.refl _ _⟩
          case round =>
            obtain ⟨n, hnm, rfl, hnn, hbw2⟩ := hrel
            have hbz2 := hbw2.size
            have hbw3 := below_up hbw1 (by omega) hbw2
            by_cases hlt2 : n < m
            · have hx1 : (n : Int) < (l.length : Int) := by omega
              have hx2 : (m : Int) < (l.length : Int) := by omega
              have hx3 : (0 : Int) ≤ (n : Int) := by omega
              have hx4 : (0 : Int) ≤ (m : Int) := by omega
              have p0 := (hcell2.below hbw3).cells (k := n) (by omega)
              have p1 := p0.2 0 _ rfl
              rw [Nat.add_zero] at p1
              have p2 : wr.cell? ⟨b, off + m * 7, none⟩ = some (.int .i64 l[m].id) := (hbw2.cell (p := ⟨b, off + m * 7, none⟩) (show b < _ by omega)).trans q0'
              clear p0
              by_cases he : l[n].id = l[m].id
              · have hb : (l[n].id == l[m].id) = true := by simpa using he
                have HE := Lib.hid he
                clear he
                go_wp2_with fail
                go_quiet (fail)
                go_wp2_with fail
                go_ret
                refine ⟨ret_bool ?_, ?_⟩
                · exact (taxesOk_twice (by omega) hlt hlt2 HE.out).symm
                · repeat' (first
                    | (with_reducible exact Below.refl _ _)
                    | (with_reducible assumption)
                    | (with_reducible refine below_drewN ?_ _)
                    | (with_reducible refine Below.drew ?_)
                    | (with_reducible refine below_regrown_up _ _ ?_ ?_)
                    | (with_reducible refine Below.alloc ?_ ?_ _)
                    | (with_reducible refine Below.setCell ?_ ?_ _)
                    | (with_reducible refine below_up ?_ ?_ (by assumption))
                    | (with_reducible exact Nat.le_refl _)
                    | omega
                    | (simp; done)
                    | (simp; omega))
              · have hb : (l[n].id == l[m].id) = false := by simpa using he
                have HE := Lib.hid he
                clear he
                go_wp2_with fail
                go_quiet (fail)
                go_wp2_with fail
                go_roundw
                case rel =>
                  refine ⟨n + 1, by omega, by go_num, Lib.hid (fun j h hj => ?_), ?_⟩
                  · by_cases e : j = n
                    · subst e; exact HE.out
                    · exact hnn.out j h (by omega)
                  · repeat' (first
                      | (with_reducible exact Below.refl _ _)
                      | (with_reducible assumption)
                      | (with_reducible refine below_drewN ?_ _)
                      | (with_reducible refine Below.drew ?_)
                      | (with_reducible refine below_regrown_up _ _ ?_ ?_)
                      | (with_reducible refine Below.alloc ?_ ?_ _)
                      | (with_reducible refine Below.setCell ?_ ?_ _)
                      | (with_reducible refine below_up ?_ ?_ (by assumption))
                      | (with_reducible exact Nat.le_refl _)
                      | omega
                      | (simp; done)
                      | (simp; omega))
                case measure => simp [intOf]; omega
            · obtain rfl : n = m := by omega
              go_wp2
              go_roundw
              case rel =>
                refine ⟨n + 1, by omega, by go_num, Lib.hid (fun j h hj => ?_), Lib.hid (fun j k hj hk hjk hkm => ?_), ?_⟩
                · by_cases e : j = n
                  · subst e; exact hok
                  · exact hn1.out j h (by omega)
                · by_cases e : k = n
                  · subst e; exact hnn.out j hj hjk
                  · exact hn2.out j k hj hk hjk (by omega)
                · repeat' (first
                    | (with_reducible exact Below.refl _ _)
                    | (with_reducible assumption)
                    | (with_reducible refine below_drewN ?_ _)
                    | (with_reducible refine Below.drew ?_)
                    | (with_reducible refine below_regrown_up _ _ ?_ ?_)
                    | (with_reducible refine Below.alloc ?_ ?_ _)
                    | (with_reducible refine Below.setCell ?_ ?_ _)
                    | (with_reducible refine below_up ?_ ?_ (by assumption))
                    | (with_reducible exact Nat.le_refl _)
                    | omega
                    | (simp; done)
                    | (simp; omega))
              case measure => simp [intOf]; omega
      · obtain rfl : m = l.length := by omega
        go_wp2
        go_ret
        refine ⟨ret_bool ?_, ?_⟩
        · exact (taxesOk_iff.2 ⟨h50, fun j h => hn1.out j h h, fun j k hj hk hjk => hn2.out j k hj hk hjk hk⟩).symm
        · repeat' (first
            | (with_reducible exact Below.refl _ _)
            | (with_reducible assumption)
            | (with_reducible refine below_drewN ?_ _)
            | (with_reducible refine Below.drew ?_)
            | (with_reducible refine below_regrown_up _ _ ?_ ?_)
            | (with_reducible refine Below.alloc ?_ ?_ _)
            | (with_reducible refine Below.setCell ?_ ?_ _)
            | (with_reducible refine below_up ?_ ?_ (by assumption))
            | (with_reducible exact Nat.le_refl _)
            | omega
            | (simp; done)
            | (simp; omega))
  · have h5 : 50 < (l.length : Int) := by omega
    clear h50
    go_enter Tryz.func11, Tryz.ntmps11
    go_wp2_with fail
    go_ret
    refine ⟨ret_bool ?_, ?_⟩
    · exact (taxesOk_long (by omega)).symm
    · repeat' (first
        | (with_reducible exact Below.refl _ _)
        | (with_reducible assumption)
        | (with_reducible refine below_drewN ?_ _)
        | (with_reducible refine Below.drew ?_)
        | (with_reducible refine below_regrown_up _ _ ?_ ?_)
        | (with_reducible refine Below.alloc ?_ ?_ _)
        | (with_reducible refine Below.setCell ?_ ?_ _)
        | (with_reducible refine below_up ?_ ?_ (by assumption))
        | (with_reducible exact Nat.le_refl _)
        | omega
        | (simp; done)
        | (simp; omega))
end Go.Proofs.YtmlhoojcdidgkaaGreat

/-
  Contracts of the reference of package tax: all taxes of a bill; lists of integers that are the same.
-/
namespace Go.Proofs.YtmlhoojcdidgkaaGreat
set_option linter.unusedSimpArgs false
set_option linter.unusedVariables false
open Go.RowKit Go.Maps
open Go.Sort (grow size_grow)

set_option maxHeartbeats 2000000
set_option maxRecDepth 100000

theorem info_int : (Tryz.prog.info? 3).map (fun i => (i.zero, i.size, i.bytes)) = some (some (.int .i64 0), 1, 8) := by kernel_rfl
/-- What a list of integers, a number and an error hand back. -/
def Ret3 (r : List Int × Int × Int) (e : Ending) (w' : World) : Prop := ∃ A c, e = .returned (.tuple #[.slice A r.1.length c, .int .i64 r.2.1, .int .i64 r.2.2]) ∧ SlInt w' A r.1
theorem ret3_nil {r : List Int × Int × Int} {n er : Int} {w' : World} (h : r = ([], n, er)) : Ret3 r (.returned (.tuple #[.slice none 0 0, .int .i64 n, .int .i64 er])) w' := by
  subst h
  exact ⟨none, 0, rfl, Sl.nil_⟩

end Go.Proofs.YtmlhoojcdidgkaaGreat

/-
  Plain helpers for ranges over functions. No program's number stands here.
-/
namespace Go.Proofs.YtmlhoojcdidgkaaGreat
set_option linter.unusedSimpArgs false
set_option linter.unusedVariables false
open Go.RowKit

/-- The blocks of X lie as they lay. -/
def KeepOn (X : Nat → Prop) (A B : World) : Prop := ∀ k, X k → B.heap[k]? = A.heap[k]?
theorem KeepOn.refl (X : Nat → Prop) (A : World) : KeepOn X A A := fun _ _ => rfl
theorem KeepOn.trans {X : Nat → Prop} {A B C : World} (h : KeepOn X A B) (k : KeepOn X B C) : KeepOn X A C := fun i hi => (k i hi).trans (h i hi)
theorem KeepOn.cell {X : Nat → Prop} {A B : World} (h : KeepOn X A B) {p : Addr} (hp : X p.block) : B.cell? p = A.cell? p := World.cell?_of_block (h _ hp)
theorem KeepOn.below {X : Nat → Prop} {A B : World} {n : Nat} (h : Below n A B) (hX : ∀ k, X k → k < n) : KeepOn X A B := fun k hk => h.block k (hX k hk)
theorem KeepOn.alloc {X : Nat → Prop} {A B : World} (h : KeepOn X A B) (hX : ∀ k, X k → k < B.heap.size) (o : Obj) : KeepOn X A (B.alloc o) :=
  h.trans fun k hk => Below.heap_alloc B o k (hX k hk)
theorem KeepOn.setCell {X : Nat → Prop} {A B : World} (h : KeepOn X A B) {p : Addr} (hp : ¬ X p.block) (v : Value) : KeepOn X A (B.setCell p v) :=
  h.trans fun k hk => Below.heap_setCell B p v k (fun e => hp (e ▸ hk))
theorem KeepOn.grown {X : Nat → Prop} {A B C : World} {row : Option Nat} (h : KeepOn X A B) (hX : ∀ k, X k → k < B.heap.size) (hg : B.grownBy C row) (hr : ∀ k, row = some k → ¬ X k) : KeepOn X A C :=
  h.trans fun k hk => hg.block k (hX k hk) (fun e => hr k e.symm hk)
theorem keepOn_t {X : Nat → Prop} {A B C : World} (h : KeepOn X A B) (k : KeepOn X B C) : KeepOn X A C := h.trans k
theorem keepOn_b {X : Nat → Prop} {w : World} (hX : ∀ k, X k → k < w.heap.size) (W : World) (l : Nat) (o o' : Obj) (hl : w.heap.size ≤ l) (_ : W.heap[l]? = some o) (_ : o.isCells = false) (_ : o.isWalk = false) : KeepOn X W (W.putObj l o') :=
  fun k hk => World.putObj_heap_other (by have := hX k hk; omega)
theorem abides_none {β : Type} {B : Nat} {J : β → World → Prop} (h : AbidesFrom B J) {s : β} {W W' : World} (hs : J s W) (hg : W.grownBy W' none) : J s W' := h s W W' none hs hg (fun r e => by cases e)
theorem abides_below {β : Type} {B : Nat} {J : β → World → Prop} (h : AbidesFrom B J) {s : β} {W W' : World} (hs : J s W) (hb : Below W.heap.size W W') : J s W' := abides_none h hs (grownBy_below hb none)
theorem abides_alloc {β : Type} {B : Nat} {J : β → World → Prop} (h : AbidesFrom B J) {s : β} {W : World} (hs : J s W) (o : Obj) : J s (W.alloc o) := abides_none h hs (World.grownBy_alloc W o none)

theorem Sl.keepOn {α : Type} {W W' : World} {B size : Nat} {enc : α → List Value} {A : Option Addr} {l : List α} {X : Nat → Prop} (h : Sl W B size enc A l) (hk : KeepOn X W W') (hX : l ≠ [] → ∀ b off, A = some ⟨b, off, none⟩ → X b) : Sl W' B size enc A l := fun hl => by
  obtain ⟨b, off, e, hlt, hc⟩ := h hl
  exact ⟨b, off, e, hlt, fun k hk' j v hv => (hk.cell (p := ⟨b, _, none⟩) (hX hl b off e)).trans (hc k hk' j v hv)⟩
theorem row_keptN {w w' : World} {base : Nat} {e : TypeId} {size : Nat} {v : Value} {n : Nat} {xs : List Value} {row : Option Nat} (h : w.ownsRow base e size v n xs) (hg : w.grownBy w' row)
    (hr : ∀ r, row = some r → ∃ o : Obj, w.heap[r]? = some o ∧ o.isCells = false) : w'.ownsRow base e size v n xs := by
  refine h.kept hg ?_
  cases hv : v.ownBlock with
  | none => exact .inl rfl
  | some k =>
    refine .inr fun e' => ?_
    obtain ⟨o, ho, hc⟩ := hr k e'.symm
    rcases h.2 with ⟨rfl, _⟩ | ⟨g, cap, cur, rfl, _, hg', _⟩
    · simp [Value.ownBlock] at hv
    · have : g = k := by simpa [Value.ownBlock] using hv
      subst this
      rw [hg'] at ho
      cases ho
      simp [Obj.isCells] at hc
theorem size_keptN {w w' : World} {row : Option Nat} {n : Nat} (h : n ≤ w.heap.size) (hg : w.grownBy w' row) : n ≤ w'.heap.size := Nat.le_trans h hg.size
theorem cells_of_row {w : World} {base : Nat} {e : TypeId} {size : Nat} {v : Value} {n : Nat} {xs : List Value} (h : w.ownsRow base e size v n xs) {k : Nat} (hk : v.ownBlock = some k) {o : Obj} (ho : w.heap[k]? = some o) : o.isCells = true := by
  rcases h.2 with ⟨rfl, _⟩ | ⟨g, cap, cur, rfl, _, hg', _⟩
  · simp [Value.ownBlock] at hk
  · have : g = k := by simpa [Value.ownBlock] using hk
    subst this
    rw [hg'] at ho
    cases ho
    rfl
theorem isCells_of_cell {W : World} {a : Addr} {v : Value} (h : W.cell? a = some v) {o : Obj} (ho : W.heap[a.block]? = some o) : o.isCells = true := by
  obtain ⟨o', ho', hc⟩ := cells_of_cell h
  rw [ho] at ho'
  cases ho'
  exact hc
end Go.Proofs.YtmlhoojcdidgkaaGreat

/-
  Contracts of package tax: the iterator over what each tax of a bill is.
-/
namespace Go.Proofs.YtmlhoojcdidgkaaGreat
set_option linter.unusedSimpArgs false
set_option linter.unusedVariables false
open Go.RowKit Go.Maps Go.Shelf
open Go.Sort (grow size_grow)

set_option maxHeartbeats 2000000
set_option maxRecDepth 100000
attribute [local go_sem] Oper.semAt_some

def Bill.cs (b : Bill) : List Value := [.int .i64 b.stay, .int .i64 b.channel, .int .i64 b.place, .int .i64 b.kind, .int .i64 b.frm, .int .i64 b.til, .int .i64 b.persons, .int .i64 b.price, .int .i64 b.keep]

/-- What one tax of a bill is, with its bounds. -/
abbrev OneS := { x : Int × Int // 0 ≤ x.1 ∧ x.1 ≤ 1000000000 }
def oneS (t : Tax) (b : Bill) : OneS := ⟨one t b, one_bd t b⟩
theorem each1_in (n : Nat) (hn : 1 ≤ n) (l B1 B2 : Nat) (X : Nat → Prop) (L : List Tax) (b : Bill) (A : Option Addr) (c : Nat) (J Jx : List OneS → World → Prop) (W : World)
    (hX1 : X B1) (hX2 : X B2) (hXA : L ≠ [] → ∀ bk off, A = some ⟨bk, off, none⟩ → X bk) (hXs : ∀ k, X k → k < W.heap.size) (hJ : AbidesFrom W.heap.size J)
    (hY : ∀ pre x W1, J pre W1 → pre.length < L.length → YieldAt Fence.wide (n - 1) Tryz.prog l #[.int .i64 x.1.1, .int .i64 x.1.2] W1 fun e W' =>
      (e = .returned (.bool true) ∧ J (pre ++ [x]) W' ∧ KeepOn X W1 W' ∧ W1.heap.size ≤ W'.heap.size) ∨ (e = .returned (.bool false) ∧ Jx (pre ++ [x]) W'))
    (c1 : W.cell? ⟨B1, 0, none⟩ = some (.slice A L.length c)) (c2 : ∀ j v, b.cs[j]? = some v → W.cell? ⟨B2, j, none⟩ = some v)
    (hs : Sl W W.heap.size 7 Tax.cs A L) (hl : L.length ≤ 1000000000000) (h0 : J [] W) :
    CallsIn Fence.wide n Tryz.prog 64 #[.func (.yield l) #[] #[], .pointer (some ⟨B1, 0, none⟩), .pointer (some ⟨B2, 0, none⟩)] W fun e W' => (∃ v, e = .returned v) ∧
      ((∃ xs, xs = L.map (oneS · b) ∧ J xs W') ∨ (∃ pre, pre <+: L.map (oneS · b) ∧ Jx pre W')) := by
  have HY := Lib.hid hY
  have HXA := Lib.hid hXA
  have HXs := Lib.hid hXs
  have HC2 := Lib.hid c2
  clear hY hXA hXs c2
  refine callsIn_of_wp Tryz.func64 rfl trivial ?_ rfl
  simp only [Tryz.ntmps64, List.size_toArray, List.length_cons, List.length_nil, Nat.reduceAdd, Nat.reduceSub, Array.replicate_succ, Array.replicate_zero, List.push_toArray, List.append_toArray, List.nil_append, List.cons_append]
  gi_wp2
  gi_loopw [8] (fun i wr => ∃ k : Nat, k ≤ L.length ∧ i = .int .i64 k ∧ J ((L.map (oneS · b)).take k) wr ∧ KeepOn X W wr ∧ W.heap.size ≤ wr.heap.size) (fun i _ => L.length - (intOf i).toNat)
  case atStart => exact ⟨0, Nat.zero_le _, rfl, h0, KeepOn.refl _ _, Nat.le_refl _⟩
  case round =>
    obtain ⟨k, hk, rfl, hJs, hnx, hsz⟩ := hrel
    by_cases hlt : k < L.length
    · obtain ⟨bk, off, rfl, hbl, hcell⟩ := (hs.keepOn hnx HXA.out).at_ hlt
      have q0 := hcell 0 _ rfl
      have q1 := hcell 1 _ rfl
      have q2 := hcell 2 _ rfl
      have q3 := hcell 3 _ rfl
      have q4 := hcell 4 _ rfl
      have q5 := hcell 5 _ rfl
      have q6 := hcell 6 _ rfl
      rw [Nat.add_zero] at q0
      have HC := Lib.hid hcell
      clear hcell
      have hc2 : ∀ j v, b.cs[j]? = some v → wr.cell? ⟨B2, j, none⟩ = some v := fun j v hv => (hnx.cell (p := ⟨B2, j, none⟩) hX2).trans (HC2.out j v hv)
      have p0 := hc2 0 _ rfl
      have p1 := hc2 1 _ rfl
      have p2 := hc2 2 _ rfl
      have p3 := hc2 3 _ rfl
      have p4 := hc2 4 _ rfl
      have p5 := hc2 5 _ rfl
      have p6 := hc2 6 _ rfl
      have p7 := hc2 7 _ rfl
      have p8 := hc2 8 _ rfl
      clear hc2
      have hB2 : B2 < wr.heap.size := by have := HXs.out _ hX2; omega
      have hbw : bk < wr.heap.size := by omega
      have hx1 : (k : Int) < (L.length : Int) := by omega
      have hx4 : (0 : Int) ≤ (k : Int) := by omega
      gi_wp2_with (refine ⟨trivial, ?_⟩; gi_at_call 65; refine (callsIn_wide.2 (one_any L[k] b _)).mono ?_; rintro e w1 ⟨rfl, hb1⟩; obtain ⟨fn, tmps, assign, body, hy, hR⟩ := HY.out _ (oneS L[k] b) w1 (abides_below hJ (abides_alloc hJ hJs _) hb1) (by simp; omega); dsimp only [oneS] at hy)
      refine hR.mono ?_
      have hz1 := hb1.size
      simp only [World.size_alloc] at hz1
      have hk1 : KeepOn X W w1 := (hnx.alloc (fun i hi => by have := HXs.out i hi; omega) _).trans (KeepOn.below hb1 (fun i hi => by have := HXs.out i hi; simp; omega))
      have hsn : (L.map (oneS · b)).take (k + 1) = (L.map (oneS · b)).take k ++ [oneS L[k] b] := by
        rw [List.take_succ_eq_append_getElem (by simpa using hlt)]
        simp
      have HSN := Lib.hid hsn
      clear hsn
      rintro e W3 (⟨rfl, hJ3, hk3, hz3⟩ | ⟨rfl, hJx3⟩)
      · gi_wp2
        go_roundw
        case rel => exact ⟨k + 1, by omega, by simp, by rw [HSN.out]; exact hJ3, hk1.trans hk3, by omega⟩
        case measure => simp [intOf]; omega
      · gi_wp2
        refine bodyPost_ret (results_none rfl _ _ _) rfl ?_
        exact ⟨⟨_, rfl⟩, .inr ⟨_, by rw [← HSN.out]; exact List.take_prefix _ _, hJx3⟩⟩
    · obtain rfl : k = L.length := by omega
      gi_wp2
      go_end0
      exact ⟨⟨_, rfl⟩, .inl ⟨_, by rw [List.take_of_length_le (by simp)], hJs⟩⟩

def BillObj (b : Bill) : Obj := .cells #[.int .i64 b.stay, .int .i64 b.channel, .int .i64 b.place, .int .i64 b.kind, .int .i64 b.frm, .int .i64 b.til, .int .i64 b.persons, .int .i64 b.price, .int .i64 b.keep] 31
theorem each_any (A : Option Addr) (n c : Nat) (b : Bill) (w : World) :
    Calls Tryz.prog 30 #[.slice A n c, b.v] w fun e w' => e = .returned (.func (.func 64) #[] #[.pointer (some ⟨w.heap.size, 0, none⟩), .pointer (some ⟨w.heap.size + 1, 0, none⟩)]) ∧ w' = (w.alloc (.cells #[.slice A n c] 23)).alloc (BillObj b) := by
  go_enter Tryz.func30, Tryz.ntmps30
  go_wp2
  go_ret
  exact ⟨rfl, rfl⟩

/-- Only blocks of S, and what is new, have turned. -/
structure Touch (S : Nat → Prop) (w w' : World) : Prop where
  os : w'.os = w.os
  tape : w'.tape = w.tape
  output : w'.output = w.output
  size : w.heap.size ≤ w'.heap.size
  block : ∀ k, k < w.heap.size → ¬ S k → w'.heap[k]? = w.heap[k]?
theorem Touch.refl (S : Nat → Prop) (w : World) : Touch S w w := ⟨rfl, rfl, rfl, Nat.le_refl _, fun _ _ _ => rfl⟩
theorem Touch.trans {S : Nat → Prop} {a b c : World} (h : Touch S a b) (k : Touch S b c) : Touch S a c :=
  ⟨k.os.trans h.os, k.tape.trans h.tape, k.output.trans h.output, Nat.le_trans h.size k.size, fun i hi hs => (k.block i (Nat.lt_of_lt_of_le hi h.size) hs).trans (h.block i hi hs)⟩
theorem Touch.of_below {S : Nat → Prop} {w w' : World} (h : Below w.heap.size w w') : Touch S w w' := ⟨h.os, h.tape, h.output, h.size, fun k hk _ => h.block k hk⟩
theorem Touch.of_grownBy {S : Nat → Prop} {w w' : World} {row : Option Nat} (h : w.grownBy w' row) (hr : ∀ k, row = some k → k < w.heap.size → S k) : Touch S w w' :=
  ⟨h.os, h.tape, h.output, h.size, fun k hk hs => h.block k hk (fun e => hs (hr k e.symm hk))⟩
theorem Touch.alloc {S : Nat → Prop} {a w : World} (h : Touch S a w) (o : Obj) : Touch S a (w.alloc o) := h.trans (.of_below ((Below.refl _ w).alloc (Nat.le_refl _) o))
theorem Touch.drew {S : Nat → Prop} {a w : World} (h : Touch S a w) : Touch S a w.drew := ⟨h.os, h.tape, h.output, h.size, h.block⟩
theorem Touch.setCell {S : Nat → Prop} {a w : World} (h : Touch S a w) {p : Addr} (hp : S p.block) (v : Value) : Touch S a (w.setCell p v) :=
  h.trans ⟨rfl, rfl, rfl, by simp, fun k _ hs => Below.heap_setCell w p v k (fun e => hs (e ▸ hp))⟩
theorem Touch.below {S : Nat → Prop} {w w' : World} {n : Nat} (h : Touch S w w') (hn : n ≤ w.heap.size) (hS : ∀ k, S k → n ≤ k) : Below n w w' :=
  ⟨h.os, h.tape, h.output, h.size, fun k hk => h.block k (by omega) (fun hs => by have := hS k hs; omega)⟩
theorem Touch.keepOn {S X : Nat → Prop} {w w' : World} (h : Touch S w w') (hX : ∀ k, X k → k < w.heap.size ∧ ¬ S k) : KeepOn X w w' := fun k hk => h.block k (hX k hk).1 (hX k hk).2
theorem Touch.cell {S : Nat → Prop} {w w' : World} (h : Touch S w w') {p : Addr} {v : Value} (hp : ¬ S p.block) (hc : w.cell? p = some v) : w'.cell? p = some v :=
  (World.cell?_of_block (h.block p.block (World.block_lt_of_cell? w p hc) hp)).trans hc
theorem Touch.frozen {S : Nat → Prop} {w w' : World} (h : Touch S w w') {p : Addr} (hlt : p.block < w.heap.size) (hp : ¬ S p.block) : w'.frozen? p = w.frozen? p :=
  World.frozen?_of_block (h.block p.block hlt hp)
theorem Touch.others {S : Nat → Prop} {w w' : World} (h : Touch S w w') (hS : ∀ k, S k → ∀ o : Obj, w.heap[k]? = some o → o.isCells = true) : KeepsOthers w w' :=
  ⟨h.size, fun k o hk ho => (h.block k (Array.getElem?_eq_some_iff.1 hk).1 (fun hs => by rw [hS k hs o hk] at ho; cases ho)).trans hk⟩

theorem tax_add_any (n s : Int) (bo bs base : Nat) (v : Value) (xs : List Int) (w : World)
    (hco : w.cell? ⟨bo, 0, none⟩ = some v) (hfo : w.frozen? ⟨bo, 0, none⟩ = false) (hcs : w.cell? ⟨bs, 0, none⟩ = some (.int .i64 s)) (hfs : w.frozen? ⟨bs, 0, none⟩ = false) (hne : bo ≠ bs)
    (hown : w.ownsRow base 3 1 v xs.length (xs.map (Value.int .i64))) (hbase : base ≤ w.heap.size) (hbo : bo < base) (hbs : bs < base) (hk : xs.length ≤ 1000000) (hs0 : 0 ≤ s) (hs1 : s ≤ 1000000000000000) (hn0 : 0 ≤ n) (hn1 : n ≤ 1000000000) :
    Calls Tryz.prog 29 #[.int .i64 n, .pointer (some ⟨bo, 0, none⟩), .pointer (some ⟨bs, 0, none⟩)] w fun e w' => (∃ u, e = .returned u) ∧ ∃ v', w'.cell? ⟨bo, 0, none⟩ = some v' ∧ w'.frozen? ⟨bo, 0, none⟩ = false ∧ w'.cell? ⟨bs, 0, none⟩ = some (.int .i64 (s + n)) ∧ w'.frozen? ⟨bs, 0, none⟩ = false ∧
      w'.ownsRow base 3 1 v' (xs ++ [n]).length ((xs ++ [n]).map (Value.int .i64)) ∧ Touch (fun k => k = bo ∨ k = bs ∨ v.ownBlock = some k) w w' := by
  obtain ⟨i0, ji, jz0, jz1, jz2⟩ := info_parts info_int
  have hbl := World.block_lt_of_cell? w _ hco
  have hbl2 := World.block_lt_of_cell? w _ hcs
  have hvo : v.ownBlock ≠ some bo := fun e => by have := (hown.lt bo e).1; omega
  have hvs : v.ownBlock ≠ some bs := fun e => by have := (hown.lt bs e).1; omega
  simp only at hbl hbl2
  have hwr : IntKind.i64.wrap (s + n) = s + n := IntWalk.i64_in _ (by omega)
  go_enter Tryz.func29, Tryz.ntmps29
  go_region_law ((refine step_append_lies _ (by rfl) _ _ _ (by rfl) base 3 i0 _ 1 8 Tryz.underlying32 ji jz0 jz1 jz2 rfl (by omega) v xs.length (xs.map (Value.int .i64)) (by rfl) ((hown.alloc _).drew) ⟨w.heap.size, 0, none⟩ 1 1 [.int .i64 n] (by rfl) (by rfl) (World.news_of_block (cs := #[.int .i64 n]) (t := 3) (fr := (0, 0)) (heap_alloc_new w _)) (by simp [Value.oneCell']) (by omega) (by simp only [maxLen]; omega) (by omega) (by simp; omega) (w.heap.size + 1) (by simp) ?_; intro gg cap w1 hown1 hgrow hat hlt; have e1 : w1.cell? ⟨bs, 0, none⟩ = some (.int .i64 s) := (World.cell?_of_block (hgrow.block bs (by simp; omega) (Ne.symm hvs))).trans (by go_simp); have e2 : w1.cell? ⟨bo, 0, none⟩ = some v := (World.cell?_of_block (hgrow.block bo (by simp; omega) (Ne.symm hvo))).trans (by go_simp); have e3 : w1.frozen? ⟨bs, 0, none⟩ = false := (World.frozen?_of_block (hgrow.block bs (by simp; omega) (Ne.symm hvs))).trans (by go_simp); have e4 : w1.frozen? ⟨bo, 0, none⟩ = false := (World.frozen?_of_block (hgrow.block bo (by simp; omega) (Ne.symm hvo))).trans (by go_simp)))
  all_goals
    go_end0
    have f1 : (w1.setCell ⟨bo, 0, none⟩ (.slice (some ⟨gg, 0, none⟩) (xs.length + 1) cap)).cell? ⟨bs, 0, none⟩ = some (.int .i64 s) := (World.cell?_setCell_other _ _ _ _ (fun e => hne (by injection e))).trans e1
    have f2 := World.cell?_setCell_same w1 ⟨bo, 0, none⟩ (.slice (some ⟨gg, 0, none⟩) (xs.length + 1) cap) e2
    refine ⟨⟨_, rfl⟩, .slice (some ⟨gg, 0, none⟩) (xs.length + 1) cap, ?_, ?_, ?_, ?_, ?_, ?_⟩
    · exact (World.cell?_setCell_other _ _ _ _ (fun e => hne (by injection e with e; exact e.symm))).trans f2
    · rw [World.frozen?_setCell, World.frozen?_setCell]; exact e4
    · exact World.cell?_setCell_same _ _ _ f1
    · rw [World.frozen?_setCell, World.frozen?_setCell]; exact e3
    · have h1 := ownsRow_setCell_below (a := ⟨bs, 0, none⟩) (ownsRow_setCell_below (a := ⟨bo, 0, none⟩) hown1 hbo (.slice (some ⟨gg, 0, none⟩) (xs.length + 1) cap)) hbs (.int .i64 (s + n))
      simpa using h1
    · refine Touch.setCell (Touch.setCell (((((Touch.refl _ w).alloc _).drew).trans (Touch.of_grownBy hgrow ?_))) (.inl rfl) _) (.inr (.inl rfl)) _
      exact fun k hk _ => .inr (.inr hk)
end Go.Proofs.YtmlhoojcdidgkaaGreat
