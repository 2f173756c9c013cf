/-
  Contracts of the reference of package ledger: open entries; undoing.
-/
import Derived.Test.YtdbdjhgcmcbiaaaLed11
namespace Go.Proofs.Ytdbdjhgcmcbiaaa
set_option linter.unusedSimpArgs false
set_option linter.unusedVariables false
open Go.RowKit
open Go.Sort (grow size_grow)

set_option maxHeartbeats 4000000
set_option maxRecDepth 100000
section
variable {α : Type} {w : World} {B size : Nat} {enc : α → List Value} {A : Option Addr} {l : List α}
theorem Sl.drewN (h : Sl w B size enc A l) (n : Nat) : Sl (w.drewN n) B size enc A l := h
theorem Sl.take (h : Sl w B size enc A l) (k : Nat) : Sl w B size enc A (l.take k) := fun hne => by
  have hl : l ≠ [] := by rintro rfl; simp at hne
  obtain ⟨b, off, e, hb, hc⟩ := h hl
  refine ⟨b, off, e, hb, fun j hj r v hv => ?_⟩
  rw [List.length_take] at hj
  rw [List.getElem_take] at hv
  exact hc j (by omega) r v hv
theorem Sl.drop {b off : Nat} (h : Sl w B size enc (some ⟨b, off, none⟩) l) (k : Nat) : Sl w B size enc (some ⟨b, off + k * size, none⟩) (l.drop k) := fun hne => by
  have hl : l ≠ [] := by rintro rfl; simp at hne
  obtain ⟨b', off', e, hb, hc⟩ := h hl
  injection e with e
  injection e with e1 e2
  subst e1 e2
  refine ⟨b, off + k * size, rfl, hb, fun j hj r v hv => ?_⟩
  rw [List.length_drop] at hj
  rw [List.getElem_drop] at hv
  have := hc (k + j) (by omega) r v hv
  rw [show off + k * size + j * size + r = off + (k + j) * size + r by rw [Nat.add_mul]; omega]
  exact this
/-- 's[k:]' of a slice that reads as a list. -/
theorem Sl.cut {b off cap : Nat} (h : Sl w B size enc (some ⟨b, off, none⟩) l) (k : Nat) (hcap : l.length ≤ cap) : ∃ A', (if cap = k then some (⟨b, off, none⟩ : Addr) else some ⟨b, off + k * size, none⟩) = A' ∧ Sl w B size enc A' (l.drop k) := by
  by_cases hk : cap = k
  · refine ⟨some ⟨b, off, none⟩, by rw [if_pos hk], ?_⟩
    have : l.drop k = [] := List.drop_eq_nil_of_le (by omega)
    rw [this]
    exact Sl.nil_
  · exact ⟨_, by rw [if_neg hk], h.drop k⟩
end
theorem news_at {w : World} {n : Nat} (cs : Array Value) (t : TypeId) (l : List Value) (h : cs = l.toArray) (hn : n = w.heap.size) : ∀ (j : Nat) (u : Value), l[j]? = some u → (w.alloc (.cells cs t)).cell? ⟨n, j, none⟩ = some u := by subst hn; exact news_new w cs t l h
theorem openStep_refs {ref : Int} {out : List Entry} {e : Entry} (h : ∀ x ∈ out, x.ref = ref) : ∀ x ∈ openStep ref out e, x.ref = ref := by
  unfold openStep
  split
  · exact h
  · rename_i hr
    split
    · intro x hx
      exact h x (List.mem_of_mem_eraseIdx hx)
    · intro x hx
      rcases List.mem_append.1 hx with hx | hx
      · exact h x hx
      · simp at hx
        subst hx
        simpa using hr
theorem openE_refs (ref : Int) : ∀ (l : List Entry) (out : List Entry), (∀ x ∈ out, x.ref = ref) → ∀ x ∈ l.foldl (openStep ref) out, x.ref = ref
  | [], _, h => h
  | _ :: l, _, h => openE_refs ref l _ (openStep_refs h)
theorem openE_ref (l : List Entry) (ref : Int) : ∀ x ∈ openE l ref, x.ref = ref := openE_refs ref l [] (by simp)
theorem against3 {e x : Entry} {ref : Int} (he : e.ref = ref) (hx : x.ref = ref) : against e x = true ↔ (x.debit = e.credit ∧ x.credit = e.debit ∧ x.cents = e.cents) := by
  unfold against
  rw [decide_eq_true_eq, he, hx]
  constructor
  · rintro ⟨a, b, c, _⟩; exact ⟨b, a, c⟩
  · rintro ⟨a, b, c⟩; exact ⟨b, a, c, rfl⟩

theorem ropen_any (l : List Entry) (A : Option Addr) (c : Nat) (ref : Int) (w : World) (hs : SlEnt w A l) (hl : l.length ≤ 5000) :
    Calls Try.prog 67 #[.slice A l.length c, .int .i64 ref] w fun e w' => (∃ v, e = .returned v ∧ OwnE w' w.heap.size v (openE l ref)) ∧ Below w.heap.size w w' := by
  go_enter Try.func67, Try.ntmps67
  go_wp2
  go_loopw [5, 6] (fun v i wr => ∃ m : Nat, m ≤ l.length ∧ i = .int .i64 m ∧ OwnE wr w.heap.size v (openE (l.take m) ref) ∧ Below w.heap.size w wr) (fun _ i _ => l.length - (intOf i).toNat)
  case atStart => exact ⟨0, by omega, rfl, OwnL.nil_, Below.refl _ _⟩
  case round =>
    obtain ⟨m, hm, rfl, hown, hbw⟩ := hrel
    have hbz := hbw.size
    by_cases hlt : m < l.length
    · have hx1 : (m : Int) < (l.length : Int) := by omega
      have hx4 : (0 : Int) ≤ (m : Int) := by omega
      obtain ⟨b, off, rfl, hbl, hcell⟩ := (hs.below hbw).at_ hlt
      have q0 := hcell 0 _ rfl
      have q1 := hcell 1 _ rfl
      have q2 := hcell 2 _ rfl
      have q3 := hcell 3 _ rfl
      have q4 := hcell 4 _ rfl
      rw [Nat.add_zero] at q0
      clear hcell
      have hsn := openE_snoc (ref := ref) hlt
      have hlen := openE_le (l.take m) ref
      rw [List.length_take] at hlen
      have hlen2 : (openE (l.take m) ref).length ≤ 5000 := by omega
      have hrefs := openE_ref (l.take m) ref
      clear hlen
      generalize hout : openE (l.take m) ref = out at *
      clear hout
      have HSN := Lib.hid hsn
      have HREFS := Lib.hid hrefs
      clear hsn hrefs
      by_cases hr : l[m].ref = ref
      · have hrb : (l[m].ref != ref) = false := by simpa using hr
        have HR := Lib.hid hr
        clear hr
        obtain ⟨A2, c2, rfl, hc2, hcm, hsl2⟩ := hown.sl ent_len
        obtain ⟨wo, rfl⟩ : ∃ wo : World, wo = wr := ⟨_, rfl⟩
        go_wp2_with fail
        go_loopw [7] (fun kk wr => ∃ k : Int, -1 ≤ k ∧ k < out.length ∧ kk = .int .i64 k ∧ Hid (∀ j (h : j < out.length), k < j → against l[m] out[j] = false) ∧ Below wo.heap.size wo wr) (fun kk _ => (intOf kk + 1).toNat)
        case atStart => exact ⟨_, by omega, by omega, rfl, Lib.hid (fun j h hj => by omega), Below.refl _ _⟩
        case round =>
          obtain ⟨k, hk1, hk2, rfl, hn, hbo⟩ := hrel
          have hboz := hbo.size
          obtain ⟨hcw, hfw⟩ := bcellB (B := w.heap.size) hbo (by omega)
          have hb0w : Below w.heap.size w wr := below_up hbw hbz hbo
          by_cases h0 : 0 ≤ k
          · obtain ⟨p, rfl⟩ : ∃ p : Nat, k = (p : Int) := ⟨k.toNat, by omega⟩
            have hp : p < out.length := by omega
            have hx5 : (p : Int) < (out.length : Int) := by omega
            have hx6 : (0 : Int) ≤ (p : Int) := by omega
            have hownw := hown.below hbo
            obtain ⟨g, cap, hv, hgb, hgl⟩ := World.ownsRow.form hown (by omega)
            injection hv with hA2 _ hcap
            subst hA2 hcap
            have hcell2 := ((hsl2.below hbo).cells hp).2
            have p0 := hcell2 0 _ rfl
            have p1 := hcell2 1 _ rfl
            have p2 := hcell2 2 _ rfl
            have p3 := hcell2 3 _ rfl
            have p4 := hcell2 4 _ rfl
            rw [Nat.add_zero] at p0
            rw [Nat.zero_add] at p0 p1 p2 p3 p4
            clear hcell2
            have hag := against3 HR.out (HREFS.out _ (List.getElem_mem hp))
            have HAG := Lib.hid hag
            clear hag
            by_cases e1 : out[p].debit = l[m].credit
            · have f1 : (out[p].debit != l[m].credit) = false := by simpa using e1
              have E1 := Lib.hid e1
              clear e1
              by_cases e2 : out[p].credit = l[m].debit
              · have f2 : (out[p].credit != l[m].debit) = false := by simpa using e2
                have E2 := Lib.hid e2
                clear e2
                by_cases e3 : out[p].cents = l[m].cents
                · have f3 : (out[p].cents != l[m].cents) = false := by simpa using e3
                  have hyes : against l[m] out[p] = true := HAG.out.2 ⟨E1.out, E2.out, e3⟩
                  have hsome : lastIx (against l[m]) out = some p := lastIx_eq hp hyes (fun j hj hjp => hn.out j hj (by omega))
                  have HN := Lib.hid (openStep_some HR.out hsome)
                  clear e3 hsome hyes
                  have hslw := hsl2.below hbo
                  obtain ⟨A', hA', hsl'⟩ := hslw.cut (p + 1) hc2
                  rw [Nat.zero_add] at hA'
                  have hM1 : (out.take p).length = p := by rw [List.length_take]; omega
                  have hM2 : (out.drop (p + 1)).length = out.length - (p + 1) := List.length_drop
                  have HM1 := Lib.hid hM1
                  have HM2 := Lib.hid hM2
                  have hp1 : (p : Int) + 1 ≤ (out.length : Int) := by omega
                  have hp2 : p + 1 ≤ out.length := by omega
                  have hp3 : p + 1 ≤ c2 := by omega
                  have hp4 : p ≤ c2 := by omega
                  have hp5 : (0 : Int) ≤ (p : Int) + 1 := by omega
                  clear hM1 hM2
                  go_wp2_with fail
                  go_quiet (fail)
                  go_wp2_with (first
                    | (at_builtin; go_loud (refine wpList_append_all _ rfl (.tmp 77) (.tmp 80) 47 49 rfl wr.heap.size 5 40 Entry.cs elemEnt ent_len ent_one _ [] rfl OwnL.nil_ (some ⟨g, 0, none⟩) _ _ (out.take p) (by rw [HM1.out]; rfl) ((hslw.take p).drewN _) (by rw [HM1.out]; simp; omega) (by first | omega | (simp; done) | (simp; omega)) (Nat.le_refl _) ?_); intro v3 w3 hown3 hgrow3 hat3; rw [List.nil_append] at hown3; have hb3 := below_push (B := wr.heap.size) (e := 49) (size := 5) (enc := Entry.cs) (L := []) (Below.refl _ _) OwnL.nil_ hgrow3 (Nat.le_refl _))
                    | (at_builtin; go_loud (refine wpList_append_all _ rfl (.tmp 82) (.tmp 86) 47 49 rfl wr.heap.size 5 40 Entry.cs elemEnt ent_len ent_one _ (out.take p) rfl hown3 A' _ _ (out.drop (p + 1)) (by rw [HM2.out]; rfl) ((hsl'.drewN _).below (hb3.mono hboz)) (by rw [HM1.out, HM2.out]; omega) (by first | omega | (simp; done) | (simp; omega)) hb3.size ?_); intro v4 w4 hown4 hgrow4 hat4))
                  have hb4 := below_push hb3 hown3 hgrow4 hb3.size
                  go_roundw
                  case rel =>
                    refine ⟨m + 1, by omega, by go_num, ?_, below_up (below_drewN hb0w _) hb0w.size hb4⟩
                    rw [HSN.out, HN.out, erase_eq]
                    exact hown4.more hb0w.size
                  case measure => simp [intOf]; omega
                · have f3 : (out[p].cents != l[m].cents) = true := by simpa using e3
                  have hno : against l[m] out[p] = false := by rw [Bool.eq_false_iff]; intro h; exact e3 (HAG.out.1 h).2.2
                  clear e3
                  go_wp2_with fail
                  go_quiet (fail)
                  go_wp2_with fail
                  go_roundw
                  case rel =>
                    refine ⟨(p : Int) - 1, by omega, by omega, by go_num, Lib.hid (fun j h hj => ?_), below_drewN hbo _⟩
                    by_cases e : j = p
                    · subst e; exact hno
                    · exact hn.out j h (by omega)
                  case measure => simp [intOf] <;> omega
              · have f2 : (out[p].credit != l[m].debit) = true := by simpa using e2
                have hno : against l[m] out[p] = false := by rw [Bool.eq_false_iff]; intro h; exact e2 (HAG.out.1 h).2.1
                clear e2
                go_wp2_with fail
                go_quiet (fail)
                go_wp2_with fail
                go_roundw
                case rel =>
                  refine ⟨(p : Int) - 1, by omega, by omega, by go_num, Lib.hid (fun j h hj => ?_), below_drewN hbo _⟩
                  by_cases e : j = p
                  · subst e; exact hno
                  · exact hn.out j h (by omega)
                case measure => simp [intOf] <;> omega
            · have f1 : (out[p].debit != l[m].credit) = true := by simpa using e1
              have hno : against l[m] out[p] = false := by rw [Bool.eq_false_iff]; intro h; exact e1 (HAG.out.1 h).1
              clear e1
              go_wp2_with fail
              go_quiet (fail)
              go_wp2_with fail
              go_roundw
              case rel =>
                refine ⟨(p : Int) - 1, by omega, by omega, by go_num, Lib.hid (fun j h hj => ?_), below_drewN hbo _⟩
                by_cases e : j = p
                · subst e; exact hno
                · exact hn.out j h (by omega)
              case measure => simp [intOf] <;> omega
          · obtain rfl : k = -1 := by omega
            have hnone : lastIx (against l[m]) out = none := lastIx_none_iff.2 (fun y hy => by
              obtain ⟨j, hj, rfl⟩ := List.getElem_of_mem hy
              exact hn.out j hj (by omega))
            have HN := Lib.hid (openStep_none HR.out hnone)
            clear hnone
            have hownw := hown.below hbo
            go_wp2_with fail
            go_quiet (fail)
            go_wp2_with (at_builtin; go_loud (refine wpList_push _ rfl (.tmp 70) (.tmp 75) 47 49 rfl w.heap.size 5 40 Entry.cs elemEnt ent_len ent_one _ out rfl ((hownw.drewN _).alloc _) _ 1 l[m] rfl (news_new _ _ _ _ rfl) (by first | omega | (simp; done) | (simp; omega)) (by first | omega | (simp; done) | (simp; omega)) (by first | omega | (simp; done) | (simp; omega)) ?_); intro v2 w5 hown5 hgrow5)
            have hb5 : Below w.heap.size w w5 := below_push (by repeat' (first | (with_reducible exact Below.refl _ _) | (with_reducible assumption) | (with_reducible refine below_drewN ?_ _) | (with_reducible refine Below.drew ?_) | (with_reducible refine below_regrown_up _ _ ?_ ?_) | (with_reducible refine Below.alloc ?_ ?_ _) | (with_reducible refine Below.setCell ?_ ?_ _) | (with_reducible refine below_up ?_ ?_ (by assumption)) | (with_reducible exact Nat.le_refl _) | omega | (simp; done) | (simp; omega))) ((hownw.drewN _).alloc _) hgrow5 (by first | omega | (simp; done) | (simp; omega))
            go_roundw
            case rel =>
              refine ⟨m + 1, by omega, by go_num, ?_, hb5⟩
              rw [HSN.out, HN.out]
              exact hown5
            case measure => simp [intOf]; omega
      · have hrb : (l[m].ref != ref) = true := by simpa using hr
        have HR := Lib.hid hr
        clear hr
        go_wp2_with fail
        go_roundw
        case rel =>
          refine ⟨m + 1, by omega, by go_num, ?_, ?_⟩
          · rw [HSN.out, openStep_other HR.out]
            exact hown
          · repeat' (first
              | (with_reducible exact Below.refl _ _)
              | (with_reducible assumption)
              | (with_reducible refine below_drewN ?_ _)
              | (with_reducible refine Below.drew ?_)
              | (with_reducible refine below_regrown_up _ _ ?_ ?_)
              | (with_reducible refine Below.alloc ?_ ?_ _)
              | (with_reducible refine Below.setCell ?_ ?_ _)
              | (with_reducible refine below_up ?_ ?_ (by assumption))
              | (with_reducible exact Nat.le_refl _)
              | omega
              | (simp; done)
              | (simp; omega))
        case measure => simp [intOf]; omega
    · obtain rfl : m = l.length := by omega
      rw [List.take_of_length_le (Nat.le_refl _)] at hown
      obtain ⟨A2, c2, rfl, _, _⟩ := hown.form
      go_wp2
      go_ret
      exact ⟨⟨_, rfl, hown⟩, hbw⟩

theorem rundo_any (l : List Entry) (A : Option Addr) (c : Nat) (ref day : Int) (w : World) (hs : SlEnt w A l) (hl : l.length ≤ 140737488355328) :
    Calls Try.prog 36 #[.slice A l.length c, .int .i64 ref, .int .i64 day] w fun e w' => RetE (undoR l ref day) e w' ∧ Below w.heap.size w w' := by
  rcases undoR_cases l ref day with ⟨h1, hr⟩ | ⟨h1, h2, h3, ⟨h4, hr⟩ | ⟨h4, h5, hr⟩ | ⟨h4, h5, h6, hr⟩ | ⟨h4, h5, h6, hr⟩⟩
  · cases g1 : ledOk l <;> cases g2 : inB ref 1 1000000 <;> cases g3 : inB day 0 366
    case true.true.true => rw [g1, g2, g3] at h1; simp at h1
    all_goals
      rw [hr]
      clear h1 hr
      go_enter Try.func36, Try.ntmps36
      go_wp2_with (first | (go_at_call 29; refine (rlvalid_any l A c _ hs hl).mono ?_; rintro e w1 ⟨rfl, hb1⟩; have hz1 := hb1.size; (try simp only [World.size_alloc, World.size_setCell, World.size_drew, size_drewN', size_grow, size_redrawn] at hz1); obtain ⟨hc1, hf1⟩ := bcellB (B := w.heap.size) hb1 (by first | omega | (simp only [World.size_alloc, World.size_setCell, World.size_drew, size_drewN', size_grow, size_redrawn]; omega))); rw [g1] | (go_at_call 62; refine (r28_in_any _ _ _ _).mono ?_; rintro e w2 ⟨rfl, rfl⟩))
      go_ret2
      exact ⟨retE_nil, hb1⟩
  · have HR := Lib.hid hr
    clear hr
    rw [lastDay_begun (inB_iff.1 h3).1, decide_eq_true_eq] at h4
    go_enter Try.func36, Try.ntmps36
    go_wp2_with (first | (go_at_call 29; refine (rlvalid_any l A c _ hs hl).mono ?_; rintro e w1 ⟨rfl, hb1⟩; have hz1 := hb1.size; (try simp only [World.size_alloc, World.size_setCell, World.size_drew, size_drewN', size_grow, size_redrawn] at hz1); obtain ⟨hc1, hf1⟩ := bcellB (B := w.heap.size) hb1 (by first | omega | (simp only [World.size_alloc, World.size_setCell, World.size_drew, size_drewN', size_grow, size_redrawn]; omega))); rw [h1] | (go_at_call 62; refine (r28_in_any _ _ _ _).mono ?_; rintro e w2 ⟨rfl, rfl⟩))
    go_wp2_with (go_at_call 53; refine (last_any l A c _ (hs.up hb1) hl).mono ?_; rintro e w2 ⟨rfl, rfl⟩)
    go_ret2
    refine ⟨by rw [HR.out]; exact retE_nil, ?_⟩
    repeat' (first
      | (with_reducible exact Below.refl _ _)
      | (with_reducible assumption)
      | (with_reducible refine below_drewN ?_ _)
      | (with_reducible refine Below.drew ?_)
      | (with_reducible refine below_regrown_up _ _ ?_ ?_)
      | (with_reducible refine Below.alloc ?_ ?_ _)
      | (with_reducible refine Below.setCell ?_ ?_ _)
      | (with_reducible refine below_up ?_ ?_ (by assumption))
      | (with_reducible exact Nat.le_refl _)
      | omega
      | (simp; done)
      | (simp; omega))
  all_goals
    rw [lastDay_begun (inB_iff.1 h3).1, decide_eq_false_iff_not] at h4
    have h4' : lastDay l ≤ day := by omega
    have hl5 := (ledOk_iff.1 h1).1
    have hle := openE_le l ref
    have HR := Lib.hid hr
    clear hr h4
  · go_enter Try.func36, Try.ntmps36
    go_wp2_with (first | (go_at_call 29; refine (rlvalid_any l A c _ hs hl).mono ?_; rintro e w1 ⟨rfl, hb1⟩; have hz1 := hb1.size; (try simp only [World.size_alloc, World.size_setCell, World.size_drew, size_drewN', size_grow, size_redrawn] at hz1); obtain ⟨hc1, hf1⟩ := bcellB (B := w.heap.size) hb1 (by first | omega | (simp only [World.size_alloc, World.size_setCell, World.size_drew, size_drewN', size_grow, size_redrawn]; omega))); rw [h1] | (go_at_call 62; refine (r28_in_any _ _ _ _).mono ?_; rintro e w2 ⟨rfl, rfl⟩))
    go_wp2_with (first | (go_at_call 53; refine (last_any l A c _ (hs.up hb1) hl).mono ?_; rintro e w2 ⟨rfl, rfl⟩) | (go_at_call 67; refine (ropen_any l A c ref _ (hs.up hb1) hl5).mono ?_; rintro e w3 ⟨⟨v3, rfl, hown3⟩, hb3⟩; obtain ⟨A3, c3, rfl, hc3, _, hsl3⟩ := hown3.sl ent_len; have hz3 := hb3.size))
    all_goals
      go_ret2
      refine ⟨by rw [HR.out]; exact retE_nil, ?_⟩
      repeat' (first
        | (with_reducible exact Below.refl _ _)
        | (with_reducible assumption)
        | (with_reducible refine below_drewN ?_ _)
        | (with_reducible refine Below.drew ?_)
        | (with_reducible refine below_regrown_up _ _ ?_ ?_)
        | (with_reducible refine Below.alloc ?_ ?_ _)
        | (with_reducible refine Below.setCell ?_ ?_ _)
        | (with_reducible refine below_up ?_ ?_ (by assumption))
        | (with_reducible exact Nat.le_refl _)
        | omega
        | (simp; done)
        | (simp; omega))
  · have hpos : 0 < (openE l ref).length := by rcases hx : openE l ref with _ | ⟨x, y⟩; exact absurd hx h5; simp
    have hp2 : ((openE l ref).length == 0) = false := by rw [beq_eq_false_iff_ne]; omega
    have hp3 : (((openE l ref).length : Int) == 0) = false := by rw [beq_eq_false_iff_ne]; omega
    have hp4 : (5000 : Int) < (l.length : Int) + ((openE l ref).length : Int) := by omega
    clear h5
    go_enter Try.func36, Try.ntmps36
    go_wp2_with (first | (go_at_call 29; refine (rlvalid_any l A c _ hs hl).mono ?_; rintro e w1 ⟨rfl, hb1⟩; have hz1 := hb1.size; (try simp only [World.size_alloc, World.size_setCell, World.size_drew, size_drewN', size_grow, size_redrawn] at hz1); obtain ⟨hc1, hf1⟩ := bcellB (B := w.heap.size) hb1 (by first | omega | (simp only [World.size_alloc, World.size_setCell, World.size_drew, size_drewN', size_grow, size_redrawn]; omega))); rw [h1] | (go_at_call 62; refine (r28_in_any _ _ _ _).mono ?_; rintro e w2 ⟨rfl, rfl⟩))
    go_wp2_with (first | (go_at_call 53; refine (last_any l A c _ (hs.up hb1) hl).mono ?_; rintro e w2 ⟨rfl, rfl⟩) | (go_at_call 67; refine (ropen_any l A c ref _ (hs.up hb1) hl5).mono ?_; rintro e w3 ⟨⟨v3, rfl, hown3⟩, hb3⟩; obtain ⟨A3, c3, rfl, hc3, _, hsl3⟩ := hown3.sl ent_len; have hz3 := hb3.size))
    all_goals
      go_ret2
      refine ⟨by rw [HR.out]; exact retE_nil, ?_⟩
      repeat' (first
        | (with_reducible exact Below.refl _ _)
        | (with_reducible assumption)
        | (with_reducible refine below_drewN ?_ _)
        | (with_reducible refine Below.drew ?_)
        | (with_reducible refine below_regrown_up _ _ ?_ ?_)
        | (with_reducible refine Below.alloc ?_ ?_ _)
        | (with_reducible refine Below.setCell ?_ ?_ _)
        | (with_reducible refine below_up ?_ ?_ (by assumption))
        | (with_reducible exact Nat.le_refl _)
        | omega
        | (simp; done)
        | (simp; omega))
  · have hpos : 0 < (openE l ref).length := by rcases hx : openE l ref with _ | ⟨x, y⟩; exact absurd hx h5; simp
    have hp2 : ((openE l ref).length == 0) = false := by rw [beq_eq_false_iff_ne]; omega
    have hp3 : (((openE l ref).length : Int) == 0) = false := by rw [beq_eq_false_iff_ne]; omega
    have hp4 : (l.length : Int) + ((openE l ref).length : Int) ≤ 5000 := by omega
    clear h5
    generalize hrr : openE l ref = r at *
    have HRR := Lib.hid hrr
    clear hrr
    go_enter Try.func36, Try.ntmps36
    go_wp2_with (first | (go_at_call 29; refine (rlvalid_any l A c _ hs hl).mono ?_; rintro e w1 ⟨rfl, hb1⟩; have hz1 := hb1.size; (try simp only [World.size_alloc, World.size_setCell, World.size_drew, size_drewN', size_grow, size_redrawn] at hz1); obtain ⟨hc1, hf1⟩ := bcellB (B := w.heap.size) hb1 (by first | omega | (simp only [World.size_alloc, World.size_setCell, World.size_drew, size_drewN', size_grow, size_redrawn]; omega))); rw [h1] | (go_at_call 62; refine (r28_in_any _ _ _ _).mono ?_; rintro e w2 ⟨rfl, rfl⟩))
    go_wp2_with (first
      | (go_at_call 53; refine (last_any l A c _ (hs.up hb1) hl).mono ?_; rintro e w2 ⟨rfl, rfl⟩)
      | (go_at_call 67; refine (ropen_any l A c ref _ (hs.up hb1) hl5).mono ?_; rintro e w3 ⟨⟨v3, rfl, hown3⟩, hb3⟩; rw [HRR.out] at hown3; obtain ⟨A3, c3, rfl, hc3, _, hsl3⟩ := hown3.sl ent_len; have hz3 := hb3.size)
      | (at_builtin; go_loud (refine wpList_append_all _ rfl (.tmp 43) (.tmp 44) 47 49 rfl w3.heap.size 5 40 Entry.cs elemEnt ent_len ent_one _ [] rfl OwnL.nil_ A c _ l rfl (hs.up (below_up hb1 (by omega) hb3)) (by first | omega | (simp; done) | (simp; omega)) (by first | omega | (simp; done) | (simp; omega)) (Nat.le_refl _) ?_); intro v4 w4 hown4 hgrow4 hat4; rw [List.nil_append] at hown4; have hb4 := below_push (B := w3.heap.size) (e := 49) (size := 5) (enc := Entry.cs) (L := []) (Below.refl _ _) OwnL.nil_ hgrow4 (Nat.le_refl _); have hz4 := hb4.size))
    have hb03 : Below w.heap.size w w3 := below_up hb1 (by omega) hb3
    go_loopw [10, 11] (fun v i wr => ∃ m : Nat, m ≤ r.length ∧ i = .int .i64 m ∧ OwnE wr w3.heap.size v (l ++ (r.take m).map (undone day)) ∧ Below w3.heap.size w3 wr) (fun _ i _ => r.length - (intOf i).toNat)
    case atStart => exact ⟨0, by omega, rfl, by simpa using hown4, hb4⟩
    case round =>
      obtain ⟨m, hm, rfl, hown, hbw⟩ := hrel
      have hbz := hbw.size
      have hb0w := below_up hb03 (by omega) hbw
      by_cases hlt : m < r.length
      · have hx1 : (m : Int) < (r.length : Int) := by omega
        have hx4 : (0 : Int) ≤ (m : Int) := by omega
        obtain ⟨b, off, rfl, hbl, hcell⟩ := (hsl3.up hbw).at_ hlt
        have q0 := hcell 0 _ rfl
        have q1 := hcell 1 _ rfl
        have q2 := hcell 2 _ rfl
        have q3 := hcell 3 _ rfl
        have q4 := hcell 4 _ rfl
        rw [Nat.add_zero] at q0
        clear hcell
        have hsn := undone_snoc (l := l) (day := day) hlt
        have hlen : (l ++ (r.take m).map (undone day)).length ≤ 5000 := by simp; omega
        generalize hout : l ++ (r.take m).map (undone day) = out at *
        clear hout
        have HSN := Lib.hid hsn
        clear hsn
        go_wp2_with (first
          | (go_at_call 68; refine (rturned_any r[m] _).mono ?_; unfold turned; rintro e w5 ⟨rfl, hb5⟩; have hz5 := hb5.size; (try simp only [World.size_alloc, World.size_setCell, World.size_drew, size_drewN', size_grow, size_redrawn] at hz5); obtain ⟨hc5, hf5⟩ := bcellB (B := wr.heap.size) hb5 (by first | omega | (simp only [World.size_alloc, World.size_setCell, World.size_drew, size_drewN', size_grow, size_redrawn]; omega)))
          | (at_builtin; go_loud (refine wpList_push _ rfl (.tmp 59) (.tmp 61) 47 49 rfl w3.heap.size 5 40 Entry.cs elemEnt ent_len ent_one _ out rfl (((hown.below hb5).alloc _).alloc _) _ 1 (undone day r[m]) rfl (news_at _ _ _ rfl (by simp)) (by first | omega | (simp; done) | (simp; omega)) (by first | omega | (simp; done) | (simp; omega)) (by first | omega | (simp; done) | (simp; omega)) ?_); intro v2 w7 hown7 hgrow7))
        have hb7 : Below w3.heap.size w3 w7 := below_push (((below_up hbw (by omega) hb5).alloc (by omega) _).alloc (by first | omega | (simp; done) | (simp; omega)) _) (((hown.below hb5).alloc _).alloc _) hgrow7 (by first | omega | (simp; done) | (simp; omega))
        go_roundw
        case rel =>
          refine ⟨m + 1, by omega, by go_num, ?_, hb7⟩
          rw [HSN.out]
          exact hown7
        case measure => simp [intOf]; omega
      · obtain rfl : m = r.length := by omega
        rw [List.take_of_length_le (Nat.le_refl _)] at hown
        obtain ⟨A5, c5, rfl, _, _⟩ := hown.form
        go_wp2
        go_ret2
        refine ⟨by rw [HR.out]; exact retE_own hown, ?_⟩
        repeat' (first
          | (with_reducible exact Below.refl _ _)
          | (with_reducible assumption)
          | (with_reducible refine below_drewN ?_ _)
          | (with_reducible refine Below.drew ?_)
          | (with_reducible refine below_regrown_up _ _ ?_ ?_)
          | (with_reducible refine Below.alloc ?_ ?_ _)
          | (with_reducible refine Below.setCell ?_ ?_ _)
          | (with_reducible refine below_up ?_ ?_ (by assumption))
          | (with_reducible exact Nat.le_refl _)
          | omega
          | (simp; done)
          | (simp; omega))
end Go.Proofs.Ytdbdjhgcmcbiaaa
