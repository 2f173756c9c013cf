/-
  Package commission: whether a statement and a ledger agree: the ways out ahead of the loops.
-/
import Derived.Test.YtmlhoojcdidgkaaCom10
namespace Go.Proofs.Ytmlhoojcdidgkaa
set_option linter.unusedSimpArgs false
set_option linter.unusedVariables false
open Go.RowKit Go.Maps Go.Shelf
open Go.Sort (grow size_grow)

set_option maxHeartbeats 4000000
set_option maxRecDepth 100000
theorem cagrees_err (p d : Int) (l : List Bill) (A : Option Addr) (c : Nat) (ch : Int) (st : List Int) (B : Option Addr) (cB : Nat) (es : List Entry) (E : Option Addr) (cE : Nat) (w : World) (er : Int)
    (hs : SlBill w A l) (hl0 : l.length ≤ maxLen) (hr : stmtR p d l ch = ([], 0, er)) (her : er = 1 ∨ er = 2 ∨ er = 3) :
    Calls Try.prog 27 #[.agg #[.int .i64 p, .int .i64 d], .slice A l.length c, .int .i64 ch, .slice B st.length cB, .slice E es.length cE] w fun e w' => RetBE (agreesR p d l ch st es) e ∧ Below w.heap.size w w' := by
  have hne : (er != 0) = true := by rw [bne_iff_ne]; omega
  have hR : agreesR p d l ch st es = (false, er) := by unfold agreesR; rw [hr, if_pos (by simp only; omega)]
  have HR := Lib.hid hr
  have HA := Lib.hid hR
  clear hr hR her
  go_enter Try.func27, Try.ntmps27
  go_wp2_with fail
  refine (cstmt_lit HR.out A c _ (hs.up (by repeat' (first | (with_reducible exact Below.refl _ _) | (with_reducible assumption) | (with_reducible refine below_drewN ?_ _) | (with_reducible refine Below.drew ?_) | (with_reducible refine below_regrown_up _ _ ?_ ?_) | (with_reducible refine Below.alloc ?_ ?_ _) | (with_reducible refine Below.setCell ?_ ?_ _) | (with_reducible refine below_up ?_ ?_ (by assumption)) | (with_reducible exact Nat.le_refl _) | omega | (simp; done) | (simp; omega)))) hl0).mono ?_
  rintro e w1 ⟨⟨A1, c1', rfl, hs1⟩, hb1⟩
  have hz1 := hb1.size
  simp only [World.size_alloc] at hz1
  obtain ⟨hc1, hf1⟩ := bcellB (B := w.heap.size + 1 + 1 + 1) hb1 (by simp)
  have hlt1 : w.heap.size + 1 < w1.heap.size := by omega
  have hlt2 : w.heap.size + 1 + 1 < w1.heap.size := by omega
  go_wp2_with fail
  refine bodyPost_ret (v := .tuple #[.bool false, .int .i64 er]) ?_ rfl ⟨?_, ?_⟩
  · have d0 : (((w1.setCell ⟨w.heap.size + 1, 0, none⟩ (.bool false)).setCell ⟨w.heap.size + 1 + 1, 0, none⟩ (.int .i64 er)).alloc (.cells #[.slice A1 0 c1'] 51)).cell? ⟨w.heap.size + 1, 0, none⟩ = some (.bool false) := by go_simp
    have d1 : (((w1.setCell ⟨w.heap.size + 1, 0, none⟩ (.bool false)).setCell ⟨w.heap.size + 1 + 1, 0, none⟩ (.int .i64 er)).alloc (.cells #[.slice A1 0 c1'] 51)).cell? ⟨w.heap.size + 1 + 1, 0, none⟩ = some (.int .i64 er) := by go_simp
    simp [results, Try.results27, go_sem, d0, d1]
  · rw [HA.out]; rfl
  · repeat' (first
      | (with_reducible exact Below.refl _ _)
      | (with_reducible assumption)
      | (with_reducible refine below_drewN ?_ _)
      | (with_reducible refine Below.drew ?_)
      | (with_reducible refine below_regrown_up _ _ ?_ ?_)
      | (with_reducible refine Below.alloc ?_ ?_ _)
      | (with_reducible refine Below.setCell ?_ ?_ _)
      | (with_reducible refine below_up ?_ ?_ (by assumption))
      | (with_reducible exact Nat.le_refl _)
      | omega
      | (simp; done)
      | (simp; omega))
theorem cagrees_bad (p d : Int) (l : List Bill) (A : Option Addr) (c : Nat) (ch : Int) (st : List Int) (B : Option Addr) (cB : Nat) (es : List Entry) (E : Option Addr) (cE : Nat) (w : World)
    (hs : SlBill w A l) (hl0 : l.length ≤ maxLen) (hse : SlEnt w E es) (hse0 : es.length ≤ 140737488355328) (R : List Int) (s : Int) (hr : stmtR p d l ch = (R, s, 0)) (hk : ledOk es = false) :
    Calls Try.prog 27 #[.agg #[.int .i64 p, .int .i64 d], .slice A l.length c, .int .i64 ch, .slice B st.length cB, .slice E es.length cE] w fun e w' => RetBE (agreesR p d l ch st es) e ∧ Below w.heap.size w w' := by
  have hR : agreesR p d l ch st es = (false, 1) := by unfold agreesR; rw [hr, hk]; simp
  have HR := Lib.hid hr
  have HA := Lib.hid hR
  clear hr hR
  go_enter Try.func27, Try.ntmps27
  go_wp2_with fail
  refine (cstmt_lit HR.out A c _ (hs.up (by repeat' (first | (with_reducible exact Below.refl _ _) | (with_reducible assumption) | (with_reducible refine below_drewN ?_ _) | (with_reducible refine Below.drew ?_) | (with_reducible refine below_regrown_up _ _ ?_ ?_) | (with_reducible refine Below.alloc ?_ ?_ _) | (with_reducible refine Below.setCell ?_ ?_ _) | (with_reducible refine below_up ?_ ?_ (by assumption)) | (with_reducible exact Nat.le_refl _) | omega | (simp; done) | (simp; omega)))) hl0).mono ?_
  rintro e w1 ⟨⟨A1, c1', rfl, hs1⟩, hb1⟩
  have hz1 := hb1.size
  simp only [World.size_alloc] at hz1
  obtain ⟨hc1, hf1⟩ := bcellB (B := w.heap.size + 1 + 1 + 1) hb1 (by simp)
  have hlt1 : w.heap.size + 1 < w1.heap.size := by omega
  have hlt2 : w.heap.size + 1 + 1 < w1.heap.size := by omega
  have hB1 : Below w.heap.size w w1 := (by repeat' (first | (with_reducible exact Below.refl _ _) | (with_reducible assumption) | (with_reducible refine below_drewN ?_ _) | (with_reducible refine Below.drew ?_) | (with_reducible refine below_regrown_up _ _ ?_ ?_) | (with_reducible refine Below.alloc ?_ ?_ _) | (with_reducible refine Below.setCell ?_ ?_ _) | (with_reducible refine below_up ?_ ?_ (by assumption)) | (with_reducible exact Nat.le_refl _) | omega | (simp; done) | (simp; omega)))
  go_wp2_with fail
  refine (lvalid_any es E cE _ (hse.up (hB1.alloc (by omega) _)) hse0).mono ?_
  rintro e w2 ⟨rfl, hb2⟩; have hz2 := hb2.size; (try simp only [World.size_alloc, World.size_setCell, World.size_drew, size_drewN', size_grow, size_redrawn] at hz2); obtain ⟨hc2, hf2⟩ := bcellB (B := w.heap.size + 1 + 1 + 1) hb2 (by first | omega | (simp only [World.size_alloc, World.size_setCell, World.size_drew, size_drewN', size_grow, size_redrawn]; omega))
  rw [hk]
  go_wp2_with fail
  refine bodyPost_ret (v := .tuple #[.bool false, .int .i64 1]) ?_ rfl ⟨?_, ?_⟩
  · have d0 : ((w2.setCell ⟨w.heap.size + 1, 0, none⟩ (.bool false)).setCell ⟨w.heap.size + 1 + 1, 0, none⟩ (.int .i64 1)).cell? ⟨w.heap.size + 1, 0, none⟩ = some (.bool false) := by go_simp
    have d1 : ((w2.setCell ⟨w.heap.size + 1, 0, none⟩ (.bool false)).setCell ⟨w.heap.size + 1 + 1, 0, none⟩ (.int .i64 1)).cell? ⟨w.heap.size + 1 + 1, 0, none⟩ = some (.int .i64 1) := by go_simp
    simp [results, Try.results27, go_sem, d0, d1]
  · rw [HA.out]; rfl
  · repeat' (first
      | (with_reducible exact Below.refl _ _)
      | (with_reducible assumption)
      | (with_reducible refine below_drewN ?_ _)
      | (with_reducible refine Below.drew ?_)
      | (with_reducible refine below_regrown_up _ _ ?_ ?_)
      | (with_reducible refine Below.alloc ?_ ?_ _)
      | (with_reducible refine Below.setCell ?_ ?_ _)
      | (with_reducible refine below_up ?_ ?_ (by assumption))
      | (with_reducible exact Nat.le_refl _)
      | omega
      | (simp; done)
      | (simp; omega))
end Go.Proofs.Ytmlhoojcdidgkaa
