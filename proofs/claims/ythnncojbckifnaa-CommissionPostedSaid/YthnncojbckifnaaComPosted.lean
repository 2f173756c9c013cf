/-
  The law 'CommissionPosted': the walk.
-/
import Derived.Test.YthnncojbckifnaaPostW
namespace Go.Proofs.Ythnncojbckifnaa
set_option linter.unusedSimpArgs false
set_option linter.unusedVariables false
open Go.RowKit
open Go.Sort (grow size_grow)

set_option maxHeartbeats 4000000
set_option maxRecDepth 100000
theorem sl_setInt {w : World} {g : Nat} {R : List Int} (h : SlInt w (some ⟨g, 0, none⟩) R) {k : Nat} (hk : k < R.length) (x : Int) : SlInt (w.setCell ⟨g, k, none⟩ (.int .i64 x)) (some ⟨g, 0, none⟩) (R.set k x) := by
  intro hne
  have hg := (h.cells hk).1
  refine ⟨g, 0, rfl, by simpa using hg, fun j hj r v hv => ?_⟩
  have hj' : j < R.length := by simpa using hj
  have hc := (h.cells hj').2 0 _ rfl
  cases r with
  | succ r => simp [intC] at hv
  | zero =>
    have hv' : v = .int .i64 (R.set k x)[j] := by simpa [intC] using hv.symm
    rw [show 0 + j * 1 + 0 = j by omega] at hc ⊢
    by_cases e : j = k
    · subst e
      rw [hv', List.getElem_set_self]
      exact World.cell?_setCell_same w ⟨g, j, none⟩ _ hc
    · rw [hv', List.getElem_set_ne (fun h => e h.symm), World.cell?_setCell_other w ⟨g, k, none⟩ ⟨g, j, none⟩ _ (fun h => e (by injection h with _ h; exact h.symm))]
      exact hc
theorem own_open {w : World} {base : Nat} {v : Value} {R : List Int} (h : OwnL w base 3 1 intC v R) (hn : 0 < R.length) : ∃ g cap, v = .slice (some ⟨g, 0, none⟩) R.length cap ∧ base ≤ g ∧ g < w.heap.size ∧ R.length ≤ cap ∧ SlInt w (some ⟨g, 0, none⟩) R ∧ ∀ j, w.frozen? ⟨g, j, none⟩ = false := by
  obtain ⟨g, cap, rfl, hgb, hgl⟩ := World.ownsRow.form h hn
  obtain ⟨A, c, e, h1, _, h2⟩ := h.sl int_len
  injection e with e1 _ e3
  subst e1 e3
  obtain ⟨_, _, _, _, cur, hg, _, _⟩ := own_parts h hn
  refine ⟨g, _, rfl, hgb, hgl, h1, h2, fun j => ?_⟩
  unfold World.frozen?
  simp [hg]
theorem set_ne {R : List Int} {k : Nat} (hk : k < R.length) : R.set k (R[k] + 1) ≠ R := by
  intro h
  have h1 := List.getElem_of_eq h (i := k) (by simpa using hk)
  rw [List.getElem_set_self] at h1
  omega
theorem comms_mem_bd {p d n : Int} {l : List Bill} (h1 : partOk p d = true) (hb : ∀ b ∈ l, b.ok = true) (h : n ∈ comms p d l) : 0 ≤ n ∧ n ≤ 1000000000 := by
  obtain ⟨b, hm, rfl⟩ := List.mem_map.1 h
  obtain ⟨n0, n1⟩ := (Bill.ok_iff.1 (hb b hm)).2.2.2.2.2.2.1
  have := comm_bd h1 n0
  omega
theorem cposted_no (p d : Int) (l : List Bill) (A : Option Addr) (c : Nat) (ch u : Int) (aw : Bool) (w : World) (hs : SlBill w A l) (hl0 : l.length ≤ maxLen) (hu : use30 p d l ch = false) :
    Calls Try.prog 10 #[.agg #[.int .i64 p, .int .i64 d], .slice A l.length c, .int .i64 ch, .int .u8 u, .bool aw] w fun e w' => e = .returned (.bool true) ∧ Below w.heap.size w w' := by
  go_enter Try.func10, Try.ntmps10
  go_wp2_with (first | (go_at_call 23; refine (head30_any _).mono ?_; rintro e w1 ⟨rfl, hb1⟩; have hz1 := hb1.size; (try simp only [World.size_alloc, World.size_setCell, World.size_drew, size_drewN', size_grow, size_redrawn] at hz1); obtain ⟨hc1, hf1⟩ := bcellB (B := w.heap.size + 1) hb1 (by first | omega | (simp only [World.size_alloc, World.size_setCell, World.size_drew, size_drewN', size_grow, size_redrawn]; omega))) | (go_at_call 32; refine (usable30_any p d l A c ch _ (hs.up (by repeat' (first | (with_reducible exact Below.refl _ _) | (with_reducible assumption) | (with_reducible refine below_drewN ?_ _) | (with_reducible refine Below.drew ?_) | (with_reducible refine below_regrown_up _ _ ?_ ?_) | (with_reducible refine Below.alloc ?_ ?_ _) | (with_reducible refine Below.setCell ?_ ?_ _) | (with_reducible refine below_up ?_ ?_ (by assumption)) | (with_reducible exact Nat.le_refl _) | omega | (simp; done) | (simp; omega)))) hl0).mono ?_; rintro e w2 ⟨rfl, hb2⟩; have hz2 := hb2.size; (try simp only [World.size_alloc, World.size_setCell, World.size_drew, size_drewN', size_grow, size_redrawn] at hz2); obtain ⟨hc2, hf2⟩ := bcellB (B := w.heap.size + 1) hb2 (by first | omega | (simp only [World.size_alloc, World.size_setCell, World.size_drew, size_drewN', size_grow, size_redrawn]; omega)); rw [hu]))
  go_ret
  refine ⟨ret_bool (by simp), ?_⟩
  repeat' (first
    | (with_reducible exact Below.refl _ _)
    | (with_reducible assumption)
    | (with_reducible refine below_drewN ?_ _)
    | (with_reducible refine Below.drew ?_)
    | (with_reducible refine below_regrown_up _ _ ?_ ?_)
    | (with_reducible refine Below.alloc ?_ ?_ _)
    | (with_reducible refine Below.setCell ?_ ?_ _)
    | (with_reducible refine below_up ?_ ?_ (by assumption))
    | (with_reducible exact Nat.le_refl _)
    | omega
    | (simp; done)
    | (simp; omega))
/-- What the ledger of the posted commissions, and one more entry, answer. -/
structure PostFacts (p d ch : Int) (l : List Bill) (R : List Int) (PO : List Entry) : Prop where
  len : PO.length ≤ 60
  yes : agreesR p d l ch R PO = (true, 0)
  other : ∀ st, st ≠ R → agreesR p d l ch st PO = (false, 0)
  post : ∀ e : Entry, e.ok = true → e.day = 366 → postR PO e = (PO ++ [e], 0)
  more : ∀ (k : Nat) (hk : k < (ofCh l ch).length) (e : Entry), e.ok = true → e.day = 366 → e.ref = (ofCh l ch)[k].stay → mv (fun a => a == 700 + ch) e ≠ 0 → agreesR p d l ch R (PO ++ [e]) = (false, 0)
theorem postFacts {p d ch s : Int} {l : List Bill} {R : List Int} (h1 : partOk p d = true) (h2 : billsOk l = true) (c0 : 0 ≤ ch) (c1 : ch ≤ 29) (hl : l.length ≤ 60) (hr : stmtR p d l ch = (R, s, 0)) (hR : comms p d (ofCh l ch) = R) : PostFacts p d ch l R (postsA p d ch 0 (ofCh l ch)) := by
  subst hR
  obtain ⟨hb, hn⟩ := billsOk_iff.1 h2
  have hb' : ∀ b ∈ ofCh l ch, b.ok = true := fun b h => hb b (List.mem_filter.1 h).1
  have hn' : (stays (ofCh l ch)).Nodup := stays_ofCh hn
  have hlo := ofCh_len l ch
  have hpl := postsA_len (p := p) (d := d) (ch := ch) (ofCh l ch) 0
  have hok := postsA_ok (p := p) (d := d) (ch := ch) (l := ofCh l ch) h1 hb' ⟨c0, c1⟩ (by omega)
  have hp : ∀ e : Entry, e.ok = true → e.day = 366 → postR (postsA p d ch 0 (ofCh l ch)) e = (postsA p d ch 0 (ofCh l ch) ++ [e], 0) := fun e he hd =>
    post_ok hok he (fun x hx => by have := ok_days hok x hx; omega) (by omega)
  refine ⟨by omega, ?_, fun st hst => ?_, hp, fun k hk e he hd href hm => ?_⟩
  · rw [agreesR_ok hr hok, agrees_posts h1 ⟨c0, c1⟩ hb' hn']
  · rw [agreesR_ok hr hok, agrees_other hst]
  · have hok2 : ledOk (postsA p d ch 0 (ofCh l ch) ++ [e]) = true := by
      obtain ⟨a1, a2, a3⟩ := ledOk_iff.1 hok
      refine ledOk_iff.2 ⟨by rw [List.length_append]; simp; omega, fun x hx => ?_, ?_⟩
      · rcases List.mem_append.1 hx with hx | hx
        · exact a2 x hx
        · simp at hx; rw [hx]; exact he
      · refine List.pairwise_append.2 ⟨a3, List.pairwise_singleton _ _, fun x hx y hy => ?_⟩
        simp at hy
        have := ok_days hok x hx
        rw [hy]
        omega
    rw [agreesR_ok hr hok2, agrees_more h1 ⟨c0, c1⟩ hb' hn' hk href hm]
def oneE (aw : Bool) (ch stay : Int) : Entry := if aw then ⟨366, 301, 700 + ch, 1, stay⟩ else ⟨366, 700 + ch, 301, 1, stay⟩
theorem oneE_ok {aw : Bool} {ch stay : Int} (c0 : 0 ≤ ch) (c1 : ch ≤ 29) (s0 : 0 ≤ stay) (s1 : stay ≤ 1000000) : (oneE aw ch stay).ok = true := by
  refine Entry.ok_iff.2 ?_
  cases aw <;> simp only [oneE] <;> refine ⟨⟨?_, ?_⟩, ⟨?_, ?_⟩, ⟨?_, ?_⟩, ?_, ⟨?_, ?_⟩, ⟨?_, ?_⟩⟩ <;> simp <;> omega
theorem oneE_mv {aw : Bool} {ch stay : Int} (c0 : 0 ≤ ch) : mv (fun a => a == 700 + ch) (oneE aw ch stay) ≠ 0 := by
  rw [mv_acc]
  cases aw <;> simp only [oneE] <;> simp <;> omega
theorem cposted_far (p d : Int) (l : List Bill) (A : Option Addr) (c : Nat) (ch u : Int) (aw : Bool) (w : World) (hs : SlBill w A l) (hl0 : l.length ≤ maxLen) (hu : use30 p d l ch = true) (hr : stmtR p d l ch = ([], 0, 3)) :
    Calls Try.prog 10 #[.agg #[.int .i64 p, .int .i64 d], .slice A l.length c, .int .i64 ch, .int .u8 u, .bool aw] w fun e w' => e = .returned (.bool true) ∧ Below w.heap.size w w' := by
  have HS := Lib.hid hr
  clear hr
  go_enter Try.func10, Try.ntmps10
  go_wp2_with (first | (go_at_call 23; refine (head30_any _).mono ?_; rintro e w1 ⟨rfl, hb1⟩; have hz1 := hb1.size; (try simp only [World.size_alloc, World.size_setCell, World.size_drew, size_drewN', size_grow, size_redrawn] at hz1); obtain ⟨hc1, hf1⟩ := bcellB (B := w.heap.size + 1) hb1 (by first | omega | (simp only [World.size_alloc, World.size_setCell, World.size_drew, size_drewN', size_grow, size_redrawn]; omega))) | (go_at_call 32; refine (usable30_any p d l A c ch _ (hs.up (by repeat' (first | (with_reducible exact Below.refl _ _) | (with_reducible assumption) | (with_reducible refine below_drewN ?_ _) | (with_reducible refine Below.drew ?_) | (with_reducible refine below_regrown_up _ _ ?_ ?_) | (with_reducible refine Below.alloc ?_ ?_ _) | (with_reducible refine Below.setCell ?_ ?_ _) | (with_reducible refine below_up ?_ ?_ (by assumption)) | (with_reducible exact Nat.le_refl _) | omega | (simp; done) | (simp; omega)))) hl0).mono ?_; rintro e w2 ⟨rfl, hb2⟩; have hz2 := hb2.size; (try simp only [World.size_alloc, World.size_setCell, World.size_drew, size_drewN', size_grow, size_redrawn] at hz2); obtain ⟨hc2, hf2⟩ := bcellB (B := w.heap.size + 1) hb2 (by first | omega | (simp only [World.size_alloc, World.size_setCell, World.size_drew, size_drewN', size_grow, size_redrawn]; omega)); rw [hu]))
  have hB1 : Below w.heap.size w w1 := (by repeat' (first | (with_reducible exact Below.refl _ _) | (with_reducible assumption) | (with_reducible refine below_drewN ?_ _) | (with_reducible refine Below.drew ?_) | (with_reducible refine below_regrown_up _ _ ?_ ?_) | (with_reducible refine Below.alloc ?_ ?_ _) | (with_reducible refine Below.setCell ?_ ?_ _) | (with_reducible refine below_up ?_ ?_ (by assumption)) | (with_reducible exact Nat.le_refl _) | omega | (simp; done) | (simp; omega)))
  have hB2 := below_up hB1 (by omega) hb2
  refine (cstmt_lit HS.out A c _ (hs.up hB2) hl0).mono ?_
  rintro e w3 ⟨⟨A3, c3, rfl, hs3⟩, hb3⟩
  have hB3 := below_up hB2 (by omega) hb3
  go_wp2_with fail
  go_ret
  refine ⟨ret_bool (by simp), hB3⟩
theorem cposted_yes (p d : Int) (l : List Bill) (A : Option Addr) (c : Nat) (ch u : Int) (aw : Bool) (w : World) (hs : SlBill w A l) (hl0 : l.length ≤ maxLen) (hu : use30 p d l ch = true) (u0 : 0 ≤ u) (u1 : u ≤ 255)
    (R : List Int) (s : Int) (hr : stmtR p d l ch = (R, s, 0)) (hR : comms p d (ofCh l ch) = R) :
    Calls Try.prog 10 #[.agg #[.int .i64 p, .int .i64 d], .slice A l.length c, .int .i64 ch, .int .u8 u, .bool aw] w fun e w' => e = .returned (.bool true) ∧ Below w.heap.size w w' := by
  obtain ⟨h1, h0, h2, h3⟩ := use30_iff.1 hu
  obtain ⟨g0, g1⟩ := inB_iff.1 h3
  have HS := Lib.hid hr
  have HP := Lib.hid (postFacts h1 h2 g0 g1 h0 hr hR)
  have HOK := Lib.hid (billsOk_iff.1 h2).1
  have HRR := Lib.hid hR
  have hPL := HP.out.len
  have hRl : R.length ≤ 60 := by
    have := ofCh_len l ch
    rw [← hR]; unfold comms; rw [List.length_map]; omega
  have HB : Hid (∀ k (hk : k < R.length), 0 ≤ R[k] ∧ R[k] ≤ 1000000000) := Lib.hid (fun k hk => comms_mem_bd (p := p) (d := d) (l := ofCh l ch) h1 (fun b hb => HOK.out b (List.mem_filter.1 hb).1) (by rw [hR]; exact List.getElem_mem hk))
  clear hr hR
  go_enter Try.func10, Try.ntmps10
  go_wp2_with (first | (go_at_call 23; refine (head30_any _).mono ?_; rintro e w1 ⟨rfl, hb1⟩; have hz1 := hb1.size; (try simp only [World.size_alloc, World.size_setCell, World.size_drew, size_drewN', size_grow, size_redrawn] at hz1); obtain ⟨hc1, hf1⟩ := bcellB (B := w.heap.size + 1) hb1 (by first | omega | (simp only [World.size_alloc, World.size_setCell, World.size_drew, size_drewN', size_grow, size_redrawn]; omega))) | (go_at_call 32; refine (usable30_any p d l A c ch _ (hs.up (by repeat' (first | (with_reducible exact Below.refl _ _) | (with_reducible assumption) | (with_reducible refine below_drewN ?_ _) | (with_reducible refine Below.drew ?_) | (with_reducible refine below_regrown_up _ _ ?_ ?_) | (with_reducible refine Below.alloc ?_ ?_ _) | (with_reducible refine Below.setCell ?_ ?_ _) | (with_reducible refine below_up ?_ ?_ (by assumption)) | (with_reducible exact Nat.le_refl _) | omega | (simp; done) | (simp; omega)))) hl0).mono ?_; rintro e w2 ⟨rfl, hb2⟩; have hz2 := hb2.size; (try simp only [World.size_alloc, World.size_setCell, World.size_drew, size_drewN', size_grow, size_redrawn] at hz2); obtain ⟨hc2, hf2⟩ := bcellB (B := w.heap.size + 1) hb2 (by first | omega | (simp only [World.size_alloc, World.size_setCell, World.size_drew, size_drewN', size_grow, size_redrawn]; omega)); rw [hu]))
  have hB1 : Below w.heap.size w w1 := (by repeat' (first | (with_reducible exact Below.refl _ _) | (with_reducible assumption) | (with_reducible refine below_drewN ?_ _) | (with_reducible refine Below.drew ?_) | (with_reducible refine below_regrown_up _ _ ?_ ?_) | (with_reducible refine Below.alloc ?_ ?_ _) | (with_reducible refine Below.setCell ?_ ?_ _) | (with_reducible refine below_up ?_ ?_ (by assumption)) | (with_reducible exact Nat.le_refl _) | omega | (simp; done) | (simp; omega)))
  have hB2 := below_up hB1 (by omega) hb2
  refine (cstmt_lit HS.out A c _ (hs.up hB2) hl0).mono ?_
  rintro e w3 ⟨⟨A3, c3, rfl, hs3⟩, hb3⟩
  have hz3 := hb3.size
  obtain ⟨hc3, hf3⟩ := bcellB (B := w.heap.size + 1) hb3 (by omega)
  have hB3 := below_up hB2 (by omega) hb3
  have x0 : w3.cell? ⟨w.heap.size, 0, none⟩ = some (.int .i64 p) := by go_simp
  have x1 : w3.cell? ⟨w.heap.size, 1, none⟩ = some (.int .i64 d) := by go_simp
  have lt3 : w.heap.size < w3.heap.size := by omega
  go_wp2_with fail
  refine (posted_any p d l A c ch A3 c3 R _ (hs.up hB3) hs3 HRR.out h1 h2 g0 g1 h0).mono ?_
  generalize postsA p d ch 0 (ofCh l ch) = PO at *
  rintro e w4 ⟨⟨A4, c4, rfl, hs4⟩, hb4⟩
  have hz4 := hb4.size
  have hB4 := below_up hB3 (by omega) hb4
  have y0 := (hb4.cell (p := ⟨w.heap.size, 0, none⟩) lt3).trans x0
  have y1 := (hb4.cell (p := ⟨w.heap.size, 1, none⟩) lt3).trans x1
  have lt4 : w.heap.size < w4.heap.size := by omega
  have hse4 : PO.length ≤ 140737488355328 := by omega
  have hRm : R.length ≤ maxLen := by unfold maxLen; omega
  go_wp2_with fail
  refine (cagrees_lit HP.out.yes A c A3 c3 A4 c4 _ (hs.up hB4) hl0 (hs3.up hb4) hRm hs4 hse4).mono ?_
  rintro e w5 ⟨rfl, hb5⟩; have hz5 := hb5.size; (try simp only [World.size_alloc, World.size_setCell, World.size_drew, size_drewN', size_grow, size_redrawn] at hz5); obtain ⟨hc5, hf5⟩ := bcellB (B := w.heap.size + 1) hb5 (by first | omega | (simp only [World.size_alloc, World.size_setCell, World.size_drew, size_drewN', size_grow, size_redrawn]; omega))
  have hB5 := below_up hB4 (by omega) hb5
  have hb35 := below_up hb4 hz4 hb5
  have z0 := (hb5.cell (p := ⟨w.heap.size, 0, none⟩) lt4).trans y0
  have z1 := (hb5.cell (p := ⟨w.heap.size, 1, none⟩) lt4).trans y1
  by_cases hn : 0 < R.length
  · have hn1 : ((R.length : Int) == 0) = false := by rw [beq_eq_false_iff_ne]; omega
    have hn2 : R.length ≠ 0 := by omega
    have hk0 : 0 ≤ u % (R.length : Int) := Int.emod_nonneg _ (by omega)
    have hk1 : u % (R.length : Int) < (R.length : Int) := Int.emod_lt_of_pos _ (by omega)
    obtain ⟨k, hkk⟩ : ∃ k : Nat, u % (R.length : Int) = k := ⟨(u % (R.length : Int)).toNat, by omega⟩
    rw [hkk] at hk0 hk1
    have hkR : k < R.length := by omega
    have hnil : OwnL (w5.alloc (.cells #[] 3)) w5.heap.size 3 1 intC (.slice (some ⟨w5.heap.size, 0, none⟩) 0 0) [] := OwnL.of_block (cs := #[]) (g := w5.heap.size) (cap := 0) (heap_alloc_new w5 _) (Nat.le_refl _) rfl (by decide) rfl int_len
    go_wp2_with (at_builtin; go_loud (refine wpList_append_all _ rfl (.tmp 85) (.tmp 86) 45 3 rfl w5.heap.size 1 8 intC elemInt int_len int_one _ [] rfl hnil A3 c3 _ R rfl ((hs3.up hb35).below ((Below.refl _ _).alloc (by simp) _)) (by simp; omega) (by first | omega | (simp; done) | (simp; omega)) (by simp) ?_); intro v6 w6 hown6 hgrow6 hat6; rw [List.nil_append] at hown6; have hb6 : Below w5.heap.size w5 w6 := below_push ((Below.refl _ _).alloc (by simp) _) hnil hgrow6 (by simp); obtain ⟨g, cap6, rfl, hgb, hgl, _, hs6, hfz6⟩ := own_open hown6 hn; have s6 := (hs6.cells hkR).2 0 _ rfl; rw [Nat.add_zero, Nat.mul_one, Nat.zero_add] at s6; have f6 := hfz6 k; have hRk := HB.out k hkR; have hwk : IntKind.i64.wrap (R[k] + 1) = R[k] + 1 := IntWalk.i64_in _ (by omega))
    refine name_calls (fun w7 hw7 => ?_)
    have hb7 : Below w5.heap.size w5 w7 := by rw [hw7]; exact hb6.setCell hgb _
    have hs7 : SlInt w7 (some ⟨g, 0, none⟩) (R.set k (R[k] + 1)) := by rw [hw7]; exact sl_setInt hs6 hkR _
    have hot : R.set k (R[k] + 1) ≠ R := set_ne hkR
    have hol : (R.set k (R[k] + 1)).length = R.length := List.length_set
    generalize R.set k (R[k] + 1) = OT at hs7 hot hol
    have HOT := Lib.hid hot
    have HOL := Lib.hid hol
    clear hw7 hot hol hs6 s6 f6 hfz6 hown6 hgrow6 hat6 hb6 hRk hwk hnil
    have hz7 := hb7.size
    have hB7 := below_up hB5 (by omega) hb7
    refine (rOf_any l A c ch _ (hs.up hB7) (by omega)).mono ?_
    rintro e w8 ⟨⟨v8, rfl, hown8⟩, hb8⟩
    have hz8 := hb8.size
    have hb58 := below_up hb7 hz7 hb8
    have hB8 := below_up hB5 (by omega) hb58
    obtain ⟨A8, c8, rfl, _, _, hs8⟩ := hown8.sl bill_len
    have hkO : k < (ofCh l ch).length := by
      have h9 := congrArg List.length HRR.out
      unfold comms at h9
      rw [List.length_map] at h9
      omega
    obtain ⟨b8, o8, rfl, hbl8, hcell8⟩ := hs8.at_ hkO
    have t0 := hcell8 0 _ rfl
    rw [Nat.add_zero] at t0
    clear hcell8 hown8
    have hkI : (k : Int) < ((ofCh l ch).length : Int) := by omega
    have hst := (Bill.ok_iff.1 (HOK.out _ (List.mem_filter.1 (List.getElem_mem hkO)).1))
    have st0 : 1 ≤ (ofCh l ch)[k].stay ∧ (ofCh l ch)[k].stay ≤ 1000000 := by omega
    clear hst
    have HMORE := Lib.hid (HP.out.more k hkO)
    generalize (ofCh l ch)[k].stay = stay at *
    generalize hoL : ofCh l ch = oL at *
    have lt5 : w.heap.size < w5.heap.size := by omega
    have lt8 : w.heap.size < w8.heap.size := by omega
    have v0 := (hb58.cell (p := ⟨w.heap.size, 0, none⟩) lt5).trans z0
    have v1 := (hb58.cell (p := ⟨w.heap.size, 1, none⟩) lt5).trans z1
    cases aw
    · go_wp2_with fail
      refine name_calls (fun w9 hw9 => ?_)
      have hb9 : Below w8.heap.size w8 w9 := by rw [hw9]; exact ((Below.refl _ _).alloc (Nat.le_refl _) _)
      clear hw9
      have hz9 := hb9.size
      have hb59 := below_up hb58 (by omega) hb9
      have hb49 := below_up hb5 hz5 hb59
      have hB9 := below_up hB5 (by omega) hb59
      have hq : postR PO ⟨366, 700 + ch, 301, 1, stay⟩ = (PO ++ [⟨366, 700 + ch, 301, 1, stay⟩], 0) := HP.out.post (oneE false ch stay) (oneE_ok g0 g1 (by omega) (by omega)) rfl
      have hm : agreesR p d l ch R (PO ++ [⟨366, 700 + ch, 301, 1, stay⟩]) = (false, 0) := HMORE.out (oneE false ch stay) (oneE_ok g0 g1 (by omega) (by omega)) rfl rfl (oneE_mv g0)
      have hml : (PO ++ [(⟨366, 700 + ch, 301, 1, stay⟩ : Entry)]).length ≤ 140737488355328 := by rw [List.length_append]; simp; omega
      refine (post30 hq A4 c4 _ (hs4.up hb49) hse4).mono ?_
      generalize PO ++ [(⟨366, 700 + ch, 301, 1, stay⟩ : Entry)] = MO at *
      have HM := Lib.hid hm
      clear hm hq
      rintro e w10 ⟨⟨A10, c10, rfl, hs10⟩, hb10⟩
      have hz10 := hb10.size
      have hb510 := below_up hb59 (by omega) hb10
      have hb410 := below_up hb5 hz5 hb510
      have hb310 := below_up hb4 hz4 hb410
      have hb710 : Below w7.heap.size w7 w10 := below_up (below_up hb8 hz8 hb9) (by omega) hb10
      have hB10 := below_up hB5 (by omega) hb510
      have q0 := (hb510.cell (p := ⟨w.heap.size, 0, none⟩) lt5).trans z0
      have q1 := (hb510.cell (p := ⟨w.heap.size, 1, none⟩) lt5).trans z1
      have lt10 : w.heap.size < w10.heap.size := by omega
      go_wp2_with fail
      have hag := cagrees_lit (HP.out.other OT HOT.out) A c (some ⟨g, 0, none⟩) cap6 A4 c4 w10 (hs.up hB10) hl0 (hs7.up hb710) (by rw [HOL.out]; exact hRm) (hs4.up hb410) hse4
      rw [HOL.out] at hag
      refine hag.mono ?_
      clear hag
      rintro e w11 ⟨rfl, hb11⟩; have hz11 := hb11.size; (try simp only [World.size_alloc, World.size_setCell, World.size_drew, size_drewN', size_grow, size_redrawn] at hz11); obtain ⟨hc11, hf11⟩ := bcellB (B := w.heap.size + 1) hb11 (by first | omega | (simp only [World.size_alloc, World.size_setCell, World.size_drew, size_drewN', size_grow, size_redrawn]; omega))
      have hB11 := below_up hB10 (by omega) hb11
      have r0 := (hb11.cell (p := ⟨w.heap.size, 0, none⟩) lt10).trans q0
      have r1 := (hb11.cell (p := ⟨w.heap.size, 1, none⟩) lt10).trans q1
      have lt11 : w.heap.size < w11.heap.size := by omega
      go_wp2_with fail
      refine (cagrees_lit HM.out A c A3 c3 A10 c10 _ (hs.up hB11) hl0 (hs3.up (below_up hb310 (by omega) hb11)) hRm (hs10.up hb11) hml).mono ?_
      rintro e w12 ⟨rfl, hb12⟩; have hz12 := hb12.size; (try simp only [World.size_alloc, World.size_setCell, World.size_drew, size_drewN', size_grow, size_redrawn] at hz12); obtain ⟨hc12, hf12⟩ := bcellB (B := w.heap.size + 1) hb12 (by first | omega | (simp only [World.size_alloc, World.size_setCell, World.size_drew, size_drewN', size_grow, size_redrawn]; omega))
      go_wp2_with fail
      go_ret
      refine ⟨ret_bool (by simp), below_up hB11 (by omega) hb12⟩
    · go_wp2_with fail
      refine name_calls (fun w9 hw9 => ?_)
      have hb9 : Below w8.heap.size w8 w9 := by rw [hw9]; exact ((Below.refl _ _).alloc (Nat.le_refl _) _)
      clear hw9
      have hz9 := hb9.size
      have hb59 := below_up hb58 (by omega) hb9
      have hb49 := below_up hb5 hz5 hb59
      have hB9 := below_up hB5 (by omega) hb59
      have hq : postR PO ⟨366, 301, 700 + ch, 1, stay⟩ = (PO ++ [⟨366, 301, 700 + ch, 1, stay⟩], 0) := HP.out.post (oneE true ch stay) (oneE_ok g0 g1 (by omega) (by omega)) rfl
      have hm : agreesR p d l ch R (PO ++ [⟨366, 301, 700 + ch, 1, stay⟩]) = (false, 0) := HMORE.out (oneE true ch stay) (oneE_ok g0 g1 (by omega) (by omega)) rfl rfl (oneE_mv g0)
      have hml : (PO ++ [(⟨366, 301, 700 + ch, 1, stay⟩ : Entry)]).length ≤ 140737488355328 := by rw [List.length_append]; simp; omega
      refine (post30 hq A4 c4 _ (hs4.up hb49) hse4).mono ?_
      generalize PO ++ [(⟨366, 301, 700 + ch, 1, stay⟩ : Entry)] = MO at *
      have HM := Lib.hid hm
      clear hm hq
      rintro e w10 ⟨⟨A10, c10, rfl, hs10⟩, hb10⟩
      have hz10 := hb10.size
      have hb510 := below_up hb59 (by omega) hb10
      have hb410 := below_up hb5 hz5 hb510
      have hb310 := below_up hb4 hz4 hb410
      have hb710 : Below w7.heap.size w7 w10 := below_up (below_up hb8 hz8 hb9) (by omega) hb10
      have hB10 := below_up hB5 (by omega) hb510
      have q0 := (hb510.cell (p := ⟨w.heap.size, 0, none⟩) lt5).trans z0
      have q1 := (hb510.cell (p := ⟨w.heap.size, 1, none⟩) lt5).trans z1
      have lt10 : w.heap.size < w10.heap.size := by omega
      go_wp2_with fail
      have hag := cagrees_lit (HP.out.other OT HOT.out) A c (some ⟨g, 0, none⟩) cap6 A4 c4 w10 (hs.up hB10) hl0 (hs7.up hb710) (by rw [HOL.out]; exact hRm) (hs4.up hb410) hse4
      rw [HOL.out] at hag
      refine hag.mono ?_
      clear hag
      rintro e w11 ⟨rfl, hb11⟩; have hz11 := hb11.size; (try simp only [World.size_alloc, World.size_setCell, World.size_drew, size_drewN', size_grow, size_redrawn] at hz11); obtain ⟨hc11, hf11⟩ := bcellB (B := w.heap.size + 1) hb11 (by first | omega | (simp only [World.size_alloc, World.size_setCell, World.size_drew, size_drewN', size_grow, size_redrawn]; omega))
      have hB11 := below_up hB10 (by omega) hb11
      have r0 := (hb11.cell (p := ⟨w.heap.size, 0, none⟩) lt10).trans q0
      have r1 := (hb11.cell (p := ⟨w.heap.size, 1, none⟩) lt10).trans q1
      have lt11 : w.heap.size < w11.heap.size := by omega
      go_wp2_with fail
      refine (cagrees_lit HM.out A c A3 c3 A10 c10 _ (hs.up hB11) hl0 (hs3.up (below_up hb310 (by omega) hb11)) hRm (hs10.up hb11) hml).mono ?_
      rintro e w12 ⟨rfl, hb12⟩; have hz12 := hb12.size; (try simp only [World.size_alloc, World.size_setCell, World.size_drew, size_drewN', size_grow, size_redrawn] at hz12); obtain ⟨hc12, hf12⟩ := bcellB (B := w.heap.size + 1) hb12 (by first | omega | (simp only [World.size_alloc, World.size_setCell, World.size_drew, size_drewN', size_grow, size_redrawn]; omega))
      go_wp2_with fail
      go_ret
      refine ⟨ret_bool (by simp), below_up hB11 (by omega) hb12⟩
  · have hn1 : ((R.length : Int) == 0) = true := by rw [beq_iff_eq]; omega
    have hn2 : R.length = 0 := by omega
    go_wp2_with fail
    go_ret
    refine ⟨ret_bool (by simp), hB5⟩
theorem law_cposted (p d : Int) (l : List Bill) (A : Option Addr) (c : Nat) (ch u : Int) (aw : Bool) (w : World) (hs : SlBill w A l) (hl0 : l.length ≤ maxLen) (u0 : 0 ≤ u) (u1 : u ≤ 255) :
    Calls Try.prog 10 #[.agg #[.int .i64 p, .int .i64 d], .slice A l.length c, .int .i64 ch, .int .u8 u, .bool aw] w fun e w' => e = .returned (.bool true) ∧ Below w.heap.size w w' := by
  cases hu : use30 p d l ch
  · exact cposted_no p d l A c ch u aw w hs hl0 hu
  · obtain ⟨h1, h0, h2, h3⟩ := use30_iff.1 hu
    by_cases hfar : 1000000000 < (comms p d (ofCh l ch)).sum
    · exact cposted_far p d l A c ch u aw w hs hl0 hu (stmtR_far (by omega) h1 h2 h3 hfar)
    · exact cposted_yes p d l A c ch u aw w hs hl0 hu u0 u1 _ _ (stmtR_ok (by omega) h1 h2 h3 hfar) rfl
end Go.Proofs.Ythnncojbckifnaa
