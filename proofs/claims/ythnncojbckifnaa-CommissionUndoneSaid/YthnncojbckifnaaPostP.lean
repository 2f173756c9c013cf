/-
  The commissions of a channel as entries: plain Lean.
-/
import Derived.Test.YthnncojbckifnaaComUse
import Derived.Test.YthnncojbckifnaaUndoP
namespace Go.Proofs.Ythnncojbckifnaa
set_option linter.unusedSimpArgs false
set_option linter.unusedVariables false

def pE (p d ch : Int) (k : Nat) (b : Bill) : Entry := ⟨(k : Int) % 300, 700 + ch, 300 + b.place, comm p d b.price, b.stay⟩
def pL (p d ch : Int) (k : Nat) (b : Bill) : List Entry := if 0 < comm p d b.price then [pE p d ch k b] else []
def postsA (p d ch : Int) : Nat → List Bill → List Entry
  | _, [] => []
  | k, b :: t => pL p d ch k b ++ postsA p d ch (k + 1) t
section
variable {p d ch : Int}
theorem postsA_snoc : ∀ (l : List Bill) (k : Nat) (b : Bill), postsA p d ch k (l ++ [b]) = postsA p d ch k l ++ pL p d ch (k + l.length) b
  | [], k, b => by simp [postsA]
  | a :: l, k, b => by
    rw [List.cons_append, postsA, postsA, postsA_snoc l, List.append_assoc, List.length_cons, show k + 1 + l.length = k + (l.length + 1) by omega]
theorem pL_len (k : Nat) (b : Bill) : (pL p d ch k b).length ≤ 1 := by unfold pL; split <;> simp
theorem postsA_len : ∀ (l : List Bill) (k : Nat), (postsA p d ch k l).length ≤ l.length
  | [], _ => by simp [postsA]
  | a :: l, k => by
    have h1 := postsA_len l (k + 1)
    have h2 := pL_len (p := p) (d := d) (ch := ch) k a
    rw [postsA, List.length_append, List.length_cons]
    omega
theorem pL_mem {k : Nat} {b : Bill} {e : Entry} (h : e ∈ pL p d ch k b) : 0 < comm p d b.price ∧ e = pE p d ch k b := by
  unfold pL at h
  split at h
  · exact ⟨by assumption, by simpa using h⟩
  · cases h
theorem postsA_mem : ∀ {l : List Bill} {k : Nat} {e : Entry}, e ∈ postsA p d ch k l → ∃ i, ∃ h : i < l.length, 0 < comm p d l[i].price ∧ e = pE p d ch (k + i) l[i]
  | [], _, _, h => by cases h
  | a :: l, k, e, h => by
    rw [postsA] at h
    rcases List.mem_append.1 h with h | h
    · obtain ⟨h1, h2⟩ := pL_mem h
      exact ⟨0, by simp, h1, h2⟩
    · obtain ⟨i, hi, h1, h2⟩ := postsA_mem h
      exact ⟨i + 1, by simpa using hi, by simpa using h1, by rw [h2, show k + 1 + i = k + (i + 1) by omega]; rfl⟩
theorem pE_ok {k : Nat} {b : Bill} (h1 : partOk p d = true) (hb : b.ok = true) (hc : 0 ≤ ch ∧ ch ≤ 29) (h0 : 0 < comm p d b.price) : (pE p d ch k b).ok = true := by
  have h := Bill.ok_iff.1 hb
  have hk := comm_bd h1 h.2.2.2.2.2.2.1.1
  have hx1 : 0 ≤ (k : Int) % 300 := Int.emod_nonneg _ (by omega)
  have hx2 : (k : Int) % 300 < 300 := Int.emod_lt_of_pos _ (by omega)
  refine Entry.ok_iff.2 ⟨⟨hx1, ?_⟩, ⟨?_, ?_⟩, ⟨?_, ?_⟩, ?_, ⟨?_, ?_⟩, ⟨?_, ?_⟩⟩ <;> simp only [pE] <;> omega
theorem pE_day {k : Nat} {b : Bill} (h : k < 300) : (pE p d ch k b).day = k := by
  show (k : Int) % 300 = k
  rw [Int.emod_eq_of_lt (by omega) (by omega)]
theorem postsA_rises : ∀ (l : List Bill) (k : Nat), k + l.length ≤ 300 → Rises (postsA p d ch k l)
  | [], _, _ => List.Pairwise.nil
  | a :: l, k, h => by
    rw [List.length_cons] at h
    rw [postsA]
    refine List.pairwise_append.2 ⟨?_, postsA_rises l (k + 1) (by omega), fun x hx y hy => ?_⟩
    · unfold pL
      split
      · exact List.pairwise_singleton _ _
      · exact List.Pairwise.nil
    · obtain ⟨_, rfl⟩ := pL_mem hx
      obtain ⟨i, hi, _, rfl⟩ := postsA_mem hy
      rw [pE_day (by omega), pE_day (by omega)]
      omega
theorem postsA_ok {l : List Bill} (h1 : partOk p d = true) (hb : ∀ b ∈ l, b.ok = true) (hc : 0 ≤ ch ∧ ch ≤ 29) (hl : l.length ≤ 60) : ledOk (postsA p d ch 0 l) = true := by
  refine ledOk_iff.2 ⟨?_, fun e he => ?_, postsA_rises l 0 (by omega)⟩
  · have := postsA_len (p := p) (d := d) (ch := ch) l 0
    omega
  · obtain ⟨i, hi, h0, rfl⟩ := postsA_mem he
    exact pE_ok h1 (hb _ (List.getElem_mem hi)) hc h0
theorem movedR_append (es fs : List Entry) (acc r : Int) : movedR (es ++ fs) acc r = movedR es acc r + movedR fs acc r := by
  unfold movedR
  rw [List.filter_append, mvs_append]
theorem movedR_pL {k : Nat} {b : Bill} {r : Int} (h1 : partOk p d = true) (hb : b.ok = true) (hc : 0 ≤ ch ∧ ch ≤ 29) : movedR (pL p d ch k b) (700 + ch) r = if b.stay = r then comm p d b.price else 0 := by
  have h := Bill.ok_iff.1 hb
  have hk := comm_bd h1 h.2.2.2.2.2.2.1.1
  by_cases h0 : 0 < comm p d b.price
  · have e1 : pL p d ch k b = [] ++ [pE p d ch k b] := by unfold pL; rw [if_pos h0]; rfl
    have hcr : (pE p d ch k b).credit ≠ 700 + ch := by simp only [pE]; omega
    rw [e1, movedR_snoc, mv_acc, if_pos (show (pE p d ch k b).debit = 700 + ch from rfl), if_neg hcr]
    show 0 + (if b.stay = r then comm p d b.price - 0 else 0) = _
    split <;> omega
  · have e1 : pL p d ch k b = [] := by unfold pL; rw [if_neg h0]
    rw [e1]
    show 0 = _
    split <;> omega
theorem movedR_out (h1 : partOk p d = true) (hc : 0 ≤ ch ∧ ch ≤ 29) {r : Int} : ∀ {l : List Bill} {k : Nat}, (∀ b ∈ l, b.ok = true) → r ∉ stays l → movedR (postsA p d ch k l) (700 + ch) r = 0
  | [], _, _, _ => rfl
  | a :: l, k, hb, hr => by
    have hr2 : r ≠ a.stay ∧ r ∉ stays l := by
      unfold stays at hr ⊢
      rw [List.map_cons, List.mem_cons, not_or] at hr
      exact hr
    rw [postsA, movedR_append, movedR_pL h1 (hb a (by simp)) hc, if_neg (fun e => hr2.1 e.symm), movedR_out h1 hc (fun b h => hb b (by simp [h])) hr2.2]
    rfl
theorem movedR_in (h1 : partOk p d = true) (hc : 0 ≤ ch ∧ ch ≤ 29) : ∀ {l : List Bill} {k : Nat}, (∀ b ∈ l, b.ok = true) → (stays l).Nodup → ∀ b ∈ l, movedR (postsA p d ch k l) (700 + ch) b.stay = comm p d b.price
  | [], _, _, _, _, h => by cases h
  | a :: l, k, hb, hn, b, h => by
    have hn2 : a.stay ∉ stays l ∧ (stays l).Nodup := by
      unfold stays at hn ⊢
      rw [List.map_cons, List.nodup_cons] at hn
      exact hn
    rw [postsA, movedR_append, movedR_pL h1 (hb a (by simp)) hc]
    rcases List.mem_cons.1 h with rfl | h
    · rw [if_pos rfl, movedR_out h1 hc (fun b h => hb b (by simp [h])) hn2.1]
      omega
    · have hne : a.stay ≠ b.stay := fun e => hn2.1 (e ▸ List.mem_map.2 ⟨b, h, rfl⟩)
      rw [if_neg hne, movedR_in h1 hc (fun b h => hb b (by simp [h])) hn2.2 b h]
      omega
theorem movedL_posts {l : List Bill} (h1 : partOk p d = true) (hc : 0 ≤ ch ∧ ch ≤ 29) (hb : ∀ b ∈ l, b.ok = true) (hn : (stays l).Nodup) : movedL l (postsA p d ch 0 l) (700 + ch) = comms p d l :=
  List.map_congr_left fun b h => movedR_in h1 hc hb hn b h
theorem agrees_posts {l : List Bill} (h1 : partOk p d = true) (hc : 0 ≤ ch ∧ ch ≤ 29) (hb : ∀ b ∈ l, b.ok = true) (hn : (stays l).Nodup) : agrees (comms p d l) (comms p d l) l (postsA p d ch 0 l) (700 + ch) = true :=
  agrees_iff.2 ⟨rfl, movedL_posts h1 hc hb hn, fun e he => by
    obtain ⟨i, hi, _, rfl⟩ := postsA_mem he
    exact .inr (.inl (List.mem_map.2 ⟨_, List.getElem_mem hi, rfl⟩))⟩
theorem agrees_other {want st : List Int} {own : List Bill} {es : List Entry} {acc : Int} (h : st ≠ want) : agrees want st own es acc = false := agrees_no fun e => h e.1.symm
/-- A reference's moved sum is another one than the commission. -/
theorem agrees_moved {l : List Bill} {st : List Int} {es : List Entry} {acc : Int} {k : Nat} (hk : k < l.length) (h : movedR es acc l[k].stay ≠ comm p d l[k].price) : agrees (comms p d l) st l es acc = false :=
  agrees_no fun e => h (by
    have h2 := List.getElem_of_eq e.2.1 (i := k) (by unfold movedL; simpa using hk)
    rw [movedL_at hk] at h2
    rw [h2]
    unfold comms
    rw [List.getElem_map])
theorem agrees_more {l : List Bill} {st : List Int} {e : Entry} {k : Nat} (h1 : partOk p d = true) (hc : 0 ≤ ch ∧ ch ≤ 29) (hb : ∀ b ∈ l, b.ok = true) (hn : (stays l).Nodup) (hk : k < l.length) (he : e.ref = l[k].stay) (hm : mv (fun a => a == 700 + ch) e ≠ 0) :
    agrees (comms p d l) st l (postsA p d ch 0 l ++ [e]) (700 + ch) = false := by
  refine agrees_moved hk ?_
  rw [movedR_snoc, if_pos he, movedR_in h1 hc hb hn _ (List.getElem_mem hk)]
  omega
theorem agreesR_ok {l : List Bill} {st : List Int} {es : List Entry} {r : List Int} {s : Int} (h : stmtR p d l ch = (r, s, 0)) (hk : ledOk es = true) : agreesR p d l ch st es = (agrees r st (ofCh l ch) es (700 + ch), 0) := by
  unfold agreesR
  rw [h, hk]
  rfl
theorem post_ok {l : List Entry} {e : Entry} (hk : ledOk l = true) (he : e.ok = true) (hd : ∀ x ∈ l, x.day ≤ e.day) (hl : l.length < 5000) : postR l e = (l ++ [e], 0) := by
  have hb : begun l e.day = false := by
    rcases Nat.eq_zero_or_pos l.length with h0 | h0
    · rw [List.eq_nil_of_length_eq_zero h0]; rfl
    · rw [begun_at h0, decide_eq_false_iff_not]
      have := hd _ (List.getElem_mem (show l.length - 1 < l.length by omega))
      omega
  unfold postR
  rw [hk, he, hb, if_neg (by simp), if_neg (by simp), if_neg (by omega)]
theorem ok_days {l : List Entry} (hk : ledOk l = true) : ∀ x ∈ l, x.day ≤ 366 := fun x hx => (Entry.ok_iff.1 ((ledOk_iff.1 hk).2.1 x hx)).1.2
/-- One more is posted. -/
theorem post_step {l : List Bill} {b : Bill} (h1 : partOk p d = true) (hc : 0 ≤ ch ∧ ch ≤ 29) (hb : ∀ x ∈ l ++ [b], x.ok = true) (hl : l.length < 60) (h0 : 0 < comm p d b.price) :
    postR (postsA p d ch 0 l) (pE p d ch l.length b) = (postsA p d ch 0 (l ++ [b]), 0) := by
  have hlen := postsA_len (p := p) (d := d) (ch := ch) l 0
  rw [post_ok (postsA_ok h1 (fun x h => hb x (by simp [h])) hc (by omega)) (pE_ok h1 (hb b (by simp)) hc h0) ?_ (by omega), postsA_snoc, Nat.zero_add]
  · unfold pL; rw [if_pos h0]
  · intro x hx
    obtain ⟨i, hi, _, rfl⟩ := postsA_mem hx
    rw [pE_day (by omega), pE_day (by omega)]
    omega
theorem post_skip {l : List Bill} {b : Bill} (h0 : ¬ 0 < comm p d b.price) : postsA p d ch 0 (l ++ [b]) = postsA p d ch 0 l := by
  rw [postsA_snoc]
  unfold pL
  rw [if_neg h0, List.append_nil]
/-- Open entries where none goes against another. -/
theorem open_fold {D ref : Int} : ∀ (l out : List Entry), (∀ e ∈ out, e.debit = D) → (∀ e ∈ l, e.debit = D ∧ e.credit ≠ D) → l.foldl (openStep ref) out = out ++ l.filter fun e => e.ref == ref
  | [], out, _, _ => by simp
  | e :: l, out, ho, hl => by
    have he := hl e (by simp)
    rw [List.foldl_cons, List.filter_cons]
    by_cases hr : e.ref = ref
    · have hn : lastIx (against e) out = none := lastIx_none_iff.2 fun x hx => by
        unfold against
        rw [decide_eq_false_iff_not]
        intro h
        exact he.2 (h.2.1.symm.trans (ho x hx))
      rw [openStep_none hr hn, open_fold l _ (fun x hx => by
        rcases List.mem_append.1 hx with hx | hx
        · exact ho x hx
        · simp at hx; rw [hx]; exact he.1) (fun x hx => hl x (by simp [hx])), if_pos (by simpa using hr), List.append_assoc]
      rfl
    · rw [openStep_other hr, open_fold l _ ho (fun x hx => hl x (by simp [hx])), if_neg (by simpa using hr)]
theorem open_posts {l : List Bill} {ref : Int} (hc : 0 ≤ ch ∧ ch ≤ 29) (hb : ∀ b ∈ l, b.ok = true) : openE (postsA p d ch 0 l) ref = (postsA p d ch 0 l).filter fun e => e.ref == ref := by
  unfold openE
  rw [open_fold (D := 700 + ch) _ [] (by simp) ?_, List.nil_append]
  intro e he
  obtain ⟨i, hi, _, rfl⟩ := postsA_mem he
  have h := Bill.ok_iff.1 (hb _ (List.getElem_mem hi))
  refine ⟨rfl, ?_⟩
  simp only [pE]
  omega
theorem movedR_undone (es : List Entry) (acc ref day : Int) : movedR (es ++ (es.filter fun e => e.ref == ref).map (undone day)) acc ref = 0 := by
  rw [movedR_append]
  have h : ((es.filter fun e => e.ref == ref).map (undone day)).filter (fun e => e.ref == ref) = (es.filter fun e => e.ref == ref).map (undone day) := by
    refine List.filter_eq_self.2 fun x hx => ?_
    obtain ⟨y, hy, rfl⟩ := List.mem_map.1 hx
    exact (List.mem_filter.1 hy).2
  unfold movedR
  rw [h, mvs_undone]
  omega
/-- The undoing of a bill without commission. -/
theorem undo_none {l : List Bill} {k : Nat} (h1 : partOk p d = true) (hc : 0 ≤ ch ∧ ch ≤ 29) (hb : ∀ b ∈ l, b.ok = true) (hn : (stays l).Nodup) (hl : l.length ≤ 60) (hk : k < l.length) (h0 : comm p d l[k].price = 0) : undoR (postsA p d ch 0 l) l[k].stay 366 = ([], 4) := by
  have hok := postsA_ok h1 hb hc hl
  have hst := (Bill.ok_iff.1 (hb _ (List.getElem_mem hk)))
  have he : openE (postsA p d ch 0 l) l[k].stay = [] := by
    rw [open_posts hc hb]
    refine List.filter_eq_nil_iff.2 fun e he h => ?_
    obtain ⟨i, hi, hpos, rfl⟩ := postsA_mem he
    have h2 : l[i].stay = l[k].stay := by simpa [pE] using h
    have h3 := movedR_in (k := 0) h1 hc hb hn _ (List.getElem_mem hi)
    have h4 := movedR_in (k := 0) h1 hc hb hn _ (List.getElem_mem hk)
    rw [h2] at h3
    omega
  have hbe : begun (postsA p d ch 0 l) 366 = false := by
    rcases Nat.eq_zero_or_pos (postsA p d ch 0 l).length with h0 | h0
    · rw [List.eq_nil_of_length_eq_zero h0]; rfl
    · rw [begun_at h0, decide_eq_false_iff_not]
      have := ok_days hok _ (List.getElem_mem (show (postsA p d ch 0 l).length - 1 < _ by omega))
      omega
  have h4 : inB l[k].stay 1 1000000 = true := inB_iff.2 (by omega)
  unfold undoR
  rw [hok, h4, hbe, he]
  rfl
theorem undo_some {l : List Bill} {k : Nat} (h1 : partOk p d = true) (hc : 0 ≤ ch ∧ ch ≤ 29) (hb : ∀ b ∈ l, b.ok = true) (hn : (stays l).Nodup) (hl : l.length ≤ 60) (hk : k < l.length) (h0 : comm p d l[k].price ≠ 0) :
    ∃ m, undoR (postsA p d ch 0 l) l[k].stay 366 = (m, 0) ∧ ledOk m = true ∧ movedR m (700 + ch) l[k].stay = 0 := by
  have hok := postsA_ok h1 hb hc hl
  have hst := (Bill.ok_iff.1 (hb _ (List.getElem_mem hk)))
  have hlen := postsA_len (p := p) (d := d) (ch := ch) l 0
  have h4 := movedR_in (k := 0) h1 hc hb hn _ (List.getElem_mem hk)
  have he := open_posts (p := p) (d := d) (ref := l[k].stay) hc hb
  have hne : openE (postsA p d ch 0 l) l[k].stay ≠ [] := by
    intro e
    rw [e] at he
    unfold movedR at h4
    rw [← he, mvs_nil] at h4
    exact h0 h4.symm
  have hbe : begun (postsA p d ch 0 l) 366 = false := by
    rcases Nat.eq_zero_or_pos (postsA p d ch 0 l).length with h0 | h0
    · rw [List.eq_nil_of_length_eq_zero h0]; rfl
    · rw [begun_at h0, decide_eq_false_iff_not]
      have := ok_days hok _ (List.getElem_mem (show (postsA p d ch 0 l).length - 1 < _ by omega))
      omega
  have h5 : inB l[k].stay 1 1000000 = true := inB_iff.2 (by omega)
  have hle := openE_le (postsA p d ch 0 l) l[k].stay
  have h6 : (postsA p d ch 0 l).length + (openE (postsA p d ch 0 l) l[k].stay).length ≤ 5000 := by omega
  refine ⟨_, ?_, (undo_done hok h5 (by decide) hbe hne h6).1, ?_⟩
  · unfold undoR
    rw [hok, h5, hbe, if_neg (by simp; decide), if_neg (by simp), if_neg hne, if_neg (by omega)]
  · rw [he, movedR_undone]
end
end Go.Proofs.Ythnncojbckifnaa
