/-
  Contracts of package ledger: balances.
-/
import Derived.Test.YthnncojbckifnaaLed7
namespace Go.Proofs.Ythnncojbckifnaa
set_option linter.unusedSimpArgs false
set_option linter.unusedVariables false
open Go.RowKit Go.Maps
open Go.Sort (grow size_grow)

set_option maxHeartbeats 4000000
set_option maxRecDepth 100000

theorem upto_takeWhile {day : Int} : ∀ {l : List Entry}, Rises l → upto l day = l.takeWhile (fun e => decide (e.day ≤ day))
  | [], _ => rfl
  | x :: l, h => by
    obtain ⟨h1, h2⟩ := List.pairwise_cons.1 h
    unfold upto
    by_cases hx : x.day ≤ day
    · rw [List.filter_cons, if_pos (by simpa using hx), List.takeWhile_cons, if_pos (by simpa using hx)]
      congr 1
      exact upto_takeWhile h2
    · rw [List.filter_cons, if_neg (by simpa using hx), List.takeWhile_cons, if_neg (by simpa using hx), List.filter_eq_nil_iff]
      intro y hy
      have := h1 y hy
      simp
      omega
theorem eok_upto {L : List EOk} {l : List Entry} (hL : L.map (·.1) = l) (h : Rises l) (day : Int) : (L.takeWhile (fun e => decide (e.1.day ≤ day))).map (·.1) = upto l day := by
  subst hL
  rw [upto_takeWhile h, List.takeWhile_map]
  rfl
theorem size_owns {w : World} {P : Program} {k : TypeId} {R : Value → Option (DM × List MemPlace)} {b n : Nat} {D : DM} (h : w.ownsMap P k R b n D) : Maps.size D ≤ n := by
  obtain ⟨es, clock, hb, hf, hn, rfl⟩ := h
  show (List.foldr DataW.insert [] _).length ≤ n
  rw [length_sorted, List.length_map, Array.length_toList]
  exact hn

theorem lbalance_any (l : List Entry) (A : Option Addr) (c : Nat) (a day : Int) (w : World) (hs : SlEnt w A l) (hl : l.length ≤ 140737488355328) :
    Calls Try.prog 39 #[.slice A l.length c, .int .i64 a, .int .i64 day] w fun e w' => e = .returned (.tuple #[.int .i64 (balR l a day).1, .int .i64 (balR l a day).2]) ∧ Below w.heap.size w w' := by
  rcases balR_cases l a day with ⟨h1, hr⟩ | ⟨h1, h2, h3, hr⟩
  · cases g1 : ledOk l <;> cases g2 : inB a 100 999 <;> cases g3 : inB day 0 366
    case true.true.true => rw [g1, g2, g3] at h1; simp at h1
    all_goals
      rw [hr]
      clear h1 hr
      go_enter Try.func39, Try.ntmps39
      go_wp2_with (first | (go_at_call 56; refine (lvalid_any l A c _ hs hl).mono ?_; rintro e w1 ⟨rfl, hb1⟩; have hz1 := hb1.size; (try simp only [World.size_alloc, World.size_setCell, World.size_drew, size_drewN', size_grow, size_redrawn] at hz1); obtain ⟨hc1, hf1⟩ := bcellB (B := w.heap.size) hb1 (by first | omega | (simp only [World.size_alloc, World.size_setCell, World.size_drew, size_drewN', size_grow, size_redrawn]; omega))); rw [g1] | (go_at_call 64; refine (isAccount_any _ _).mono ?_; rintro e w2 ⟨rfl, rfl⟩) | (go_at_call 65; refine (isDay_any _ _).mono ?_; rintro e w2 ⟨rfl, rfl⟩))
      go_ret2
      exact ⟨rfl, hb1⟩
  · rw [hr]
    clear hr
    obtain ⟨h5, hall, hri⟩ := ledOk_iff.1 h1
    obtain ⟨L, hL⟩ := eok_of hall
    have hupto := eok_upto hL hri day
    have hlen : l.length = L.length := by rw [← hL, List.length_map]
    have HLEN := Lib.hid hlen
    have HL := Lib.hid hL
    have HU := Lib.hid hupto
    have ha := inB_iff.1 h2
    obtain ⟨a1, a2⟩ := ha
    have HR := Lib.hid (show bal (fun x => x == a) l day = mvs (fun x => x == a) (upto l day) from rfl)
    clear hall hri hL hlen hupto
    go_enter Try.func39, Try.ntmps39
    go_wp2_with (first
      | (go_at_call 56; refine (lvalid_any l A c _ hs hl).mono ?_; rintro e w1 ⟨rfl, hb1⟩; have hz1 := hb1.size; (try simp only [World.size_alloc, World.size_setCell, World.size_drew, size_drewN', size_grow, size_redrawn] at hz1); obtain ⟨hc1, hf1⟩ := bcellB (B := w.heap.size) hb1 (by first | omega | (simp only [World.size_alloc, World.size_setCell, World.size_drew, size_drewN', size_grow, size_redrawn]; omega))); rw [h1]
      | (go_at_call 64; refine (isAccount_any _ _).mono ?_; rintro e w2 ⟨rfl, rfl⟩)
      | (go_at_call 65; refine (isDay_any _ _).mono ?_; rintro e w2 ⟨rfl, rfl⟩)
      | (go_at_call 66; have hc := sums_any L A c day w1 (by rw [HL.out]; exact hs.up hb1) (by rw [← HLEN.out]; exact h5); rw [← HLEN.out, HU.out] at hc; refine hc.mono ?_; clear hc; rintro e w4 ⟨⟨b, N, D, rfl, hown, hN, hS⟩, hb4⟩; have HS := Lib.hid hS; clear hS)
      | (at_lookup; refine wpList_lookup_own_int _ rfl _ _ 86 rfl 3 3 .i64 keyedI Try.underlying86 Try.underlying3 (zero_int _) b N D rfl hown _ _ rfl (keyOf_int_mk Try.underlying3 (WalkArith.wf_i64 (by omega))) ?_; intro c1 hat1 hwc1; have HG1 := Lib.hid (getI_of hat1); clear hat1 hwc1))
    go_ret2
    refine ⟨?_, below_up hb1 hz1 hb4⟩
    rw [HR.out, ← HS.out.at_, HG1.out]
    rfl

theorem mvs_congr {p q : Int → Bool} {es : List Entry} (h : ∀ e ∈ es, e.ok = true) (hpq : ∀ a, 100 ≤ a → a ≤ 999 → p a = q a) : mvs p es = mvs q es := by
  unfold mvs
  congr 1
  refine List.map_congr_left (fun e he => ?_)
  obtain ⟨_, h1, h2, _⟩ := Entry.ok_iff.1 (h e he)
  unfold mv
  rw [hpq _ h1.1 h1.2, hpq _ h2.1 h2.2]
def kq (k : Int) (a : Int) : Bool := a / 100 == k
theorem kq_ofKind {k a : Int} (h1 : 100 ≤ a) (h2 : a ≤ 999) : kq k a = ofKind k a := by
  unfold kq ofKind
  rw [Bool.eq_iff_iff, beq_iff_eq, inB_iff]
  omega
end Go.Proofs.Ythnncojbckifnaa
