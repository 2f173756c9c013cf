/-
  Rooms: what the laws use.
-/
import Derived.Test.YtphapnooonjnmaaRmW7
import Derived.Test.YtphapnooonjnmaaRmW9
import Derived.Test.YtphapnooonjnmaaRmLaw
namespace Go.Proofs.Ytphapnooonjnmaa
set_option linter.unusedSimpArgs false
set_option linter.unusedVariables false
open Go.RowKit
set_option maxHeartbeats 1000000
/-- One cell of a room in a list of one's own is set. -/
theorem room_cell {w w5 : World} {L : List RoomA} {g cap n k r : Nat} {v : Value} {y : RoomA}
    (hown : OwnL w5 w.heap.size 25 6 encA (.slice (some ⟨g, 0, none⟩) n cap) L) (hn : n = L.length) (hk : k < L.length) (hr : r < 6)
    (he : encA y = (encA L[k]).set r v) (hp : ∀ x ∈ L.set k y, SlSpn w x.2.1 x.1.blk) (hb : Below w.heap.size w w5) :
    SlRoom (w5.setCell ⟨g, k * 6 + r, none⟩ v) (some ⟨g, 0, none⟩) ((L.set k y).map (·.1)) ∧ Below w.heap.size w (w5.setCell ⟨g, k * 6 + r, none⟩ v) := by
  subst hn
  obtain ⟨_, hg, _⟩ := own_parts hown (by omega)
  have hB : Below w.heap.size w (w5.setCell ⟨g, k * 6 + r, none⟩ v) := hb.setCell (by exact hg) _
  refine ⟨?_, hB⟩
  have ho := own_set (v := v) (i := k * 6 + r) (L' := L.set k y) encA_len hown (by omega) (by omega) (by simp) (flat_set1 encA_len L hk hr he)
  obtain ⟨A7, c7, e7, _, _, hs7⟩ := ho.sl encA_len
  injection e7 with e7
  rw [← e7] at hs7
  exact SlRoom.ofA hs7 fun x hx => (hp x hx).up hB
theorem tame_set {l : List Room} (hT : Tame l) {k : Nat} {r : Room} (hr : -9223372036854775808 ≤ r.id ∧ r.id ≤ 9223372036854775807) {u : List Spn} (hu : u.length ≤ 400) : Tame (l.set k (r.with_ u)) := fun x hx => by
  rcases List.mem_or_eq_of_mem_set hx with h | rfl
  · exact hT x h
  · exact ⟨hu, hr⟩
theorem set_same {l : List Room} {k : Nat} (hk : k < l.length) : l.set k (l[k].with_ l[k].blk) = l := by rw [with_same, List.set_getElem_self]
/-- Blocking a room of which the spans are known. -/
theorem block_at {l : List Room} {k : Nat} (hk : k < l.length) {b : List Spn} (hv : roomsOk (l.set k (l[k].with_ b)) = true) (hT : Tame (l.set k (l[k].with_ b))) (hb : b.length ≤ 199)
    (A : Option Addr) (c : Nat) (s : Spn) (hp : perOk s = true) (w : World) (hs : SlRoom w A (l.set k (l[k].with_ b))) (hroom : l.length ≤ c) :
    Calls Try.prog 17 #[.slice A l.length c, .int .i64 l[k].id, s.v] w fun e w' => (∃ u A' c', e = .returned (.tuple #[.slice A' l.length c', .int .i64 0]) ∧ SlRoom w' A' (l.set k (l[k].with_ u)) ∧ IsComb fU b [s] u ∧ u.length ≤ 2 * (b.length + 1) ∧ l.length ≤ c' ∧ roomsOk (l.set k (l[k].with_ u)) = true ∧ Tame (l.set k (l[k].with_ u))) ∧ Below w.heap.size w w' := by
  have hk' : k < (l.set k (l[k].with_ b)).length := by rw [List.length_set]; exact hk
  have hm : (l.set k (l[k].with_ b))[k] = l[k].with_ b := List.getElem_set_self _
  have h0 := roomsOk_iff.1 hv
  have hlen : l.length ≤ 400 := by have := h0.1; rwa [List.length_set] at this
  have hix : idxR (l.set k (l[k].with_ b)) l[k].id = k := by
    have := idxR_own h0.2.2.1 hk'
    rw [hm] at this
    exact this
  have hok := h0.2.1 _ (List.getElem_mem hk')
  have hid : inB l[k].id 1 1000000 = true := by
    rw [hm] at hok
    have := Room.okN_iff.1 (Room.ok_iff.1 hok).1
    exact inB_iff.2 ⟨this.1, this.2.1⟩
  have key := block_any (l.set k (l[k].with_ b)) A c l[k].id s w hs hT (by rw [List.length_set]; exact hroom) (by rw [List.length_set]; omega)
  rw [List.length_set] at key
  refine key.mono fun e w' ⟨⟨res, A', c', er, he, hs', hR, hc'⟩, hb'⟩ => ⟨?_, hb'⟩
  unfold BlockR at hR
  rw [if_pos (by rw [hv, hid, hp]; rfl)] at hR
  rcases hR with ⟨h1, _⟩ | ⟨k', hk1, u, h1, h2, h3, h4, h5⟩
  · omega
  · obtain rfl : k' = k := by omega
    have hset : (l.set k' (l[k'].with_ b)).set k' ((l.set k' (l[k'].with_ b))[k'].with_ u) = l.set k' (l[k'].with_ u) := by
      rw [List.set_set, hm]
      rfl
    have hb2 : (l.set k' (l[k'].with_ b))[k'].blk = b := by rw [hm]; rfl
    have hrs := rooms_set hv hk' (u := u) (room_set hok hp h2 (by rw [hb2] at h3; omega))
    rw [hb2] at h2 h3
    rw [hset] at h4 hrs
    subst h4 h5
    rw [List.length_set] at he hc'
    refine ⟨u, A', c', he, hs', h2, h3, hc', hrs, ?_⟩
    have hT2 := tame_set hT (k := k') (r := l[k'].with_ b) (hr := by have := hT.id_ hk'; rw [hm] at this; exact this) (u := u) (by omega)
    rw [List.set_set] at hT2
    exact hT2
theorem block_no {l : List Room} (A : Option Addr) (c : Nat) (a : Int) (s : Spn) (w : World) (hs : SlRoom w A l) (hT : Tame l) (hroom : l.length ≤ c) (hl : l.length ≤ 140737488355328) (hp : perOk s = false) :
    Calls Try.prog 17 #[.slice A l.length c, .int .i64 a, s.v] w fun e w' => (∃ A' c', e = .returned (.tuple #[.slice A' 0 c', .int .i64 1])) ∧ Below w.heap.size w w' := by
  refine (block_any l A c a s w hs hT hroom hl).mono fun e w' ⟨⟨res, A', c', er, he, hs', hR, hc'⟩, hb'⟩ => ⟨?_, hb'⟩
  unfold BlockR at hR
  rw [if_neg (by rw [hp]; simp)] at hR
  obtain ⟨rfl, rfl⟩ := hR
  exact ⟨A', c', he⟩
theorem use_blk {l : List Room} (h : fewR l = true) {k : Nat} (hk : k < l.length) : l[k].blk.length ≤ 40 := fewR_at h _ (List.getElem_mem hk)
theorem free_night_ok {r : Room} (h : r.ok = true) {n : Int} (h0 : 0 ≤ n) (h1 : n ≤ 365) : freeS r (nightS n) = (!has r.blk n, 0) := by
  unfold freeS
  rw [h, per_night h0 h1, if_pos (by rfl), free_night]
end Go.Proofs.Ytphapnooonjnmaa
