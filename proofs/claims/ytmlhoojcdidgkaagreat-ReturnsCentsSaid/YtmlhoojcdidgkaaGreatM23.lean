/-
  Texts, one behind the other: FoW11.
-/
import Derived.Test.YtmlhoojcdidgkaaGreatM22
/-
  Package folio: a step of the course.
-/
namespace Go.Proofs.YtmlhoojcdidgkaaGreat
set_option linter.unusedSimpArgs false
set_option linter.unusedVariables false
open Go.RowKit Go.Maps
open Go.Sort (grow size_grow)


set_option maxHeartbeats 4000000
set_option maxRecDepth 100000
@[go_sem] theorem cell?_alloc_drewN (w : World) (n : Nat) (cs : Array Value) (t : TypeId) (o : Nat) : ((w.drewN n).alloc (.cells cs t)).cell? ⟨w.heap.size, o, none⟩ = cs[o]? := World.cell?_alloc_new (w.drewN n) cs t o
@[go_sem] theorem frozen?_alloc_drewN (w : World) (n : Nat) (cs : Array Value) (t : TypeId) (o : Nat) : ((w.drewN n).alloc (.cells cs t)).frozen? ⟨w.heap.size, o, none⟩ = false := by
  unfold World.frozen?
  rw [show ((w.drewN n).alloc (.cells cs t)).heap[w.heap.size]? = some (.cells cs t (0, 0)) from heap_alloc_new (w.drewN n) _]
  simp
/-- A rule that lies in a cell of its own. -/
def RuleCell (w1 : World) (gc : Nat) (k : Int) (v : Value) (W : World) : Prop := ∃ b A cc fv, v = .pointer (some ⟨b, 0, none⟩) ∧ b < W.heap.size ∧ W.cell? ⟨b, 0, none⟩ = some (.slice A (ruleS k).length cc) ∧ W.cell? ⟨b, 1, none⟩ = some (.bool (ruleD k)) ∧ W.cell? ⟨b, 2, none⟩ = some fv ∧ SlInt W A (ruleS k) ∧ ruleF W gc k fv ∧ Below w1.heap.size w1 W
theorem meet_new {w1 w2 : World} {gc : Nat} {k : Int} {A : Option Addr} {cc : Nat} {fv : Value} {t : TypeId} (h : RuleAt (w2.alloc (.cells #[.slice A (ruleS k).length cc, .bool (ruleD k), fv] t)) gc k (.agg #[.slice A (ruleS k).length cc, .bool (ruleD k), fv])) (hb : Below w1.heap.size w1 (w2.alloc (.cells #[.slice A (ruleS k).length cc, .bool (ruleD k), fv] t))) :
    RuleCell w1 gc k (.pointer (some ⟨w2.heap.size, 0, none⟩)) (w2.alloc (.cells #[.slice A (ruleS k).length cc, .bool (ruleD k), fv] t)) := by
  obtain ⟨h1, h2⟩ := rule_inj h
  refine ⟨w2.heap.size, A, cc, fv, rfl, by simp, ?_, ?_, ?_, h1, h2, hb⟩
  all_goals rw [World.cell?_alloc_new]; rfl
theorem meet_old {w1 w2 : World} {gc b : Nat} {k : Int} {A : Option Addr} {cc : Nat} {fv z0 z1 z2 : Value} {t : TypeId} (hz : w2.heap[b]? = some (.cells #[z0, z1, z2] t (0, 0)))
    (h : RuleAt (((w2.setCell ⟨b, 0, none⟩ (.slice A (ruleS k).length cc)).setCell ⟨b, 1, none⟩ (.bool (ruleD k))).setCell ⟨b, 2, none⟩ fv) gc k (.agg #[.slice A (ruleS k).length cc, .bool (ruleD k), fv])) (hb : Below w1.heap.size w1 (((w2.setCell ⟨b, 0, none⟩ (.slice A (ruleS k).length cc)).setCell ⟨b, 1, none⟩ (.bool (ruleD k))).setCell ⟨b, 2, none⟩ fv)) :
    RuleCell w1 gc k (.pointer (some ⟨b, 0, none⟩)) (((w2.setCell ⟨b, 0, none⟩ (.slice A (ruleS k).length cc)).setCell ⟨b, 1, none⟩ (.bool (ruleD k))).setCell ⟨b, 2, none⟩ fv) := by
  obtain ⟨h1, h2⟩ := rule_inj h
  have e := heap_setCell_same _ b 2 _ t fv (heap_setCell_same _ b 1 _ t (.bool (ruleD k)) (heap_setCell_same w2 b 0 _ t (.slice A (ruleS k).length cc) hz))
  refine ⟨b, A, cc, fv, rfl, (Array.getElem?_eq_some_iff.1 e).1, ?_, ?_, ?_, h1, h2, hb⟩
  all_goals rw [cell_of_row _ b _ _ _ _ e]; rfl
theorem stated_eq (a : Acc) (k : Int) : statedD a k = (decide (a.st ∈ ruleS k) && !((ruleD k || ((k == 2) && (a.st != 3))) && !a.b.direct)) := rfl
def Stepped (gc gm base : Nat) (V : Env) (At : Option Addr) (ct : Nat) (ev : Value) (og : Option Nat) (es : List Entry) (a : Acc) (x : Deed) (w : World) (e : Ending) (w' : World) : Prop :=
  ∃ g, og = some g ∧ (if statedD a x.kind = true then Done gc gm base V At ct x.day ev g (deedD V es a x) es a w e w' else e = .returned (.int .i64 6) ∧ Below w.heap.size w w')
theorem fn_cases (k : Int) : fnOf k = 109 ∨ fnOf k = 111 ∨ fnOf k = 112 ∨ fnOf k = 113 ∨ fnOf k = 114 ∨ fnOf k = 110 := by
  unfold fnOf
  repeat' split
  all_goals simp
theorem deed_free (gc gm base : Nat) (V : Env) (At : Option Addr) (ct : Nat) (es : List Entry) (ev : Value) (g : Nat) (a : Acc) (x : Deed) (b : Nat) (w : World) (h : Bk w gc gm base V At ct es x.day ev) (hA : AccIn w g a) (hg : g < base) (hne : g ≠ gc) (hk : x.kind = 1 ∨ x.kind = 4)
    (hs : w.cell? ⟨b, 0, none⟩ = some (.int .i64 (if x.kind = 1 then 1 else 2))) (hb : b < w.heap.size) :
    Calls Tryz.prog 122 #[.pointer (some ⟨g, 0, none⟩), x.v, .pointer (some ⟨b, 0, none⟩)] w (Done gc gm base V At ct x.day ev g (deedD V es a x) es a w) := by
  have e : deedD V es a x = .ok (es, { a with st := if x.kind = 1 then 1 else 2 }) := by
    unfold deedD
    rcases hk with hk | hk
    · rw [hk]; rfl
    · rw [hk]; rfl
  rw [e]
  exact become_any gc gm base V At ct es x.day ev g a x _ b w h hA hg hne hs hb
theorem step_deed (gc gm base : Nat) (bl : List Nat) (V : Env) (At : Option Addr) (ct L : Nat) (c : Crs) (ev : Value) (x : Deed) (n : Nat) (i : Nat) (w : World) (h : CIn w gc gm base bl V At ct L c ev)
    (hi : i < c.ac.length) (hi' : i < bl.length) (hs : c.ac[i].b.stay = x.stay) (hday : c.day = x.day) (hl : c.es.length ≤ 3000) (hao : AccOk c.ac[i] n) (hn : n ≤ 500) (hce : CentsOk c.es) (htl : V.ts.length ≤ 1000000000000) (hpt : partOk V.p V.d = true)
    (k0 : 1 ≤ x.kind) (k1 : x.kind ≤ 8) (hk : x.kind ≠ 1 ∧ x.kind ≠ 4) (hc : x.kind = 2 ∨ x.kind = 8 ∨ x.kind = 7 → 1 ≤ x.cents ∧ x.cents ≤ 1000000000) :
    Calls Tryz.prog 47 #[.pointer (some ⟨gc, 0, none⟩), x.v] w (Stepped gc gm base V At ct ev bl[i]? c.es c.ac[i] x w) := by
  obtain ⟨g, hg⟩ : ∃ g, bl[i] = g := ⟨_, rfl⟩
  have HLK := Lib.hid (fun (W : World) (hb : Below w.heap.size w W) => ((h.up hb).lookup x.stay (by rw [← hs]; have := Bill.ok_iff.1 hao.b; omega) (by rw [← hs]; have := Bill.ok_iff.1 hao.b; omega)).1 i hi hi' hs)
  rw [hg] at HLK
  have hgt := h.lt _ (List.getElem_mem hi')
  have hA := h.acc i hi hi'
  rw [hg] at hgt hA
  have hgo : bl[i]? = some g := by rw [List.getElem?_eq_getElem hi', hg]
  have hbk := h.bk
  rw [hday] at hbk
  have hts := h.ts
  have hLe : L ≤ w.heap.size := by have := h.low; have := hbk.lt; have := hbk.le; omega
  clear h
  generalize c.ac[i] = a at *
  generalize c.es = es at *
  have hgc := hbk.lt
  have le0 := hbk.le
  have lgc : gc < w.heap.size := by omega
  have q2 : w.cell? ⟨gc, 2, none⟩ = some (.map (some gm)) := hbk.cell 2
  have k9 : (x.kind == 9) = false := by rw [beq_eq_false_iff_ne]; omega
  have HB := Lib.hid hbk
  have HA := Lib.hid hA
  have HO := Lib.hid hgo
  have HK := Lib.hid hk
  have HC := Lib.hid hc
  have HTS := Lib.hid hts
  clear hbk hA hgo hs hday hk hc hts
  go_enter Tryz.func47, Tryz.ntmps47
  go_wp2_with fail
  refine name_world (fun w1 hw1 => ?_)
  have b1 : Below w.heap.size w w1 := by rw [hw1]; exact (by repeat' (first | (with_reducible exact Below.refl _ _) | (with_reducible assumption) | (with_reducible refine below_drewN ?_ _) | (with_reducible refine Below.drew ?_) | (with_reducible refine below_regrown_up _ _ ?_ ?_) | (with_reducible refine Below.alloc ?_ ?_ _) | (with_reducible refine Below.setCell ?_ ?_ _) | (with_reducible refine below_up ?_ ?_ (by assumption)) | (with_reducible exact Nat.le_refl _) | omega | (simp; done) | (simp; omega)))
  have y0 : w1.cell? ⟨w.heap.size, 0, none⟩ = some (.int .i64 x.kind) := by rw [hw1]; go_simp
  have y1 : w1.cell? ⟨w.heap.size, 1, none⟩ = some (.int .i64 x.day) := by rw [hw1]; go_simp
  have y2 : w1.cell? ⟨w.heap.size, 2, none⟩ = some (.int .i64 x.stay) := by rw [hw1]; go_simp
  have y3 : w1.cell? ⟨w.heap.size, 3, none⟩ = some (.int .i64 x.cents) := by rw [hw1]; go_simp
  have r2 : w1.cell? ⟨gc, 2, none⟩ = some (.map (some gm)) := (b1.cell (p := ⟨gc, 2, none⟩) lgc).trans q2
  have l1 : w.heap.size < w1.heap.size := by rw [hw1]; simp
  have l1' : w.heap.size < w1.heap.size + 1 := by omega
  have l1d : ∀ n, w.heap.size < (w1.drewN n).heap.size := fun _ => l1
  have lg1 : gc < w1.heap.size := by omega
  clear hw1 q2
  have hrun : ∀ n, (Instr.lookup 92 (.map (some gm)) (.int .i64 x.stay) true).run Tryz.prog (w1.drewN n) = .ok (.tuple #[.pointer (some ⟨g, 0, none⟩), .bool true]) (w1.drewN n) := fun n => HLK.out _ (below_drewN b1 n)
  go_quiet (fail)
  go_upto_region 6 with fail
  clear hrun
  have HW1 := Lib.hid (And.intro y0 (And.intro y1 (And.intro y2 y3)))
  go_cut [7] (fun v7 wc => RuleCell w1 gc x.kind v7 wc)
  case first =>
    refine name_world (fun wq hwq => ?_)
    have bq : Below w1.heap.size w1 wq := by rw [hwq]; exact below_drewN (Below.refl _ _) _
    have zq : w1.heap.size ≤ wq.heap.size := bq.size
    have y0q : wq.cell? ⟨w.heap.size, 0, none⟩ = some (.int .i64 x.kind) := (bq.cell (p := ⟨w.heap.size, 0, none⟩) l1).trans y0
    have lq : w.heap.size < wq.heap.size := by omega
    have lq' : w.heap.size < wq.heap.size + 1 := by omega
    clear hwq y0 y1 y2 y3 r2 l1d
    have HQ := Lib.hid (And.intro bq y0q)
    go_region_law (go_simp; go_at_call 82; go_loud (refine (rules_any gc _).mono ?_); rintro e w2 ⟨⟨gmR, rfl, HRU⟩, b2⟩; obtain ⟨v, HV⟩ := HRU x.kind k0 k1; obtain ⟨hrun0, hR⟩ := HV w2 (.of_below (Below.refl _ _)); obtain ⟨A, cc, fv, rfl, hsl, hfv⟩ := hR; obtain rfl := rule_bound hfv HK.out.1 HK.out.2; have HV' := Lib.hid HV; have hrun1 : ∀ o, (Instr.lookup 131 (.map (some gmR)) (.int .i64 x.kind) false).run Tryz.prog (w2.alloc o) = .ok (.agg #[.slice A (ruleS x.kind).length cc, .bool (ruleD x.kind), .func (.func (fnOf x.kind)) #[.pointer (some ⟨gc, 0, none⟩)] #[]]) (w2.alloc o) := fun o => (HV'.out _ (.of_below ((Below.refl _ _).alloc (Nat.le_refl _) _))).1; obtain ⟨hc2, hf2⟩ := bcell b2; (try simp only [World.size_alloc, World.size_drew, size_drewN'] at hc2 hf2); have lz2 : w.heap.size < w2.heap.size := (by have hz := b2.size; (try simp only [World.size_alloc, World.size_drew, size_drewN'] at hz); omega); clear HV HRU hsl hfv; have HB2 := Lib.hid b2; clear b2)
    all_goals
      have b2 := HB2.out
      have z2 := b2.size
      clear hc2 hf2 hrun0 hrun1
      (try simp only [World.size_alloc, World.size_drew, size_drewN'] at z2)
      have HZ := Lib.hid (fun (k : Nat) (hk : k < wq.heap.size) => b2.block k (by simp; omega))
      go_wp2_with fail
      go_meet
      first
        | (exact meet_new (HV'.out _ (.of_below ((Below.refl _ _).alloc (Nat.le_refl _) _))).2 (below_up HQ.out.1 HQ.out.1.size (below_up (B := wq.heap.size) (by repeat' (first | (with_reducible exact Below.refl _ _) | (with_reducible assumption) | (with_reducible refine below_drewN ?_ _) | (with_reducible refine Below.drew ?_) | (with_reducible refine below_regrown_up _ _ ?_ ?_) | (with_reducible refine Below.alloc ?_ ?_ _) | (with_reducible refine Below.setCell ?_ ?_ _) | (with_reducible refine below_up ?_ ?_ (by assumption)) | (with_reducible exact Nat.le_refl _) | omega | (simp; done) | (simp; omega))) (by omega) ((Below.refl _ _).alloc (Nat.le_refl _) _))))
        | (have hbw : Below wq.heap.size wq w2 := (by repeat' (first | (with_reducible exact Below.refl _ _) | (with_reducible assumption) | (with_reducible refine below_drewN ?_ _) | (with_reducible refine Below.drew ?_) | (with_reducible refine below_regrown_up _ _ ?_ ?_) | (with_reducible refine Below.alloc ?_ ?_ _) | (with_reducible refine Below.setCell ?_ ?_ _) | (with_reducible refine below_up ?_ ?_ (by assumption)) | (with_reducible exact Nat.le_refl _) | omega | (simp; done) | (simp; omega)))
           have hb1w : Below w1.heap.size w1 w2 := below_up HQ.out.1 HQ.out.1.size hbw
           exact meet_old (z0 := .slice none 0 0) (z1 := .bool false) (z2 := .nilFunc) (t := 130) ((b2.block wq.heap.size (by simp)).trans (heap_alloc_new wq _)) (HV'.out _ ((((Tops.of_below (Below.refl _ _)).set (by simp) _ _).set (by simp) _ _).set (by simp) _ _)).2 (((hb1w.setCell (by show w1.heap.size ≤ wq.heap.size; omega) _).setCell (by show w1.heap.size ≤ wq.heap.size; omega) _).setCell (by show w1.heap.size ≤ wq.heap.size; omega) _))
  case rest =>
    obtain ⟨bR, A, cc, fv, rfl, hbR, p0, p1, p2, hsl, hfv, bc⟩ := hcut
    obtain rfl := rule_bound hfv HK.out.1 HK.out.2
    clear y0 y1 y2 y3 r2 l1d l1'
    obtain ⟨y0, y1, y2, y3⟩ := HW1.out
    have yc0 := (bc.cell (p := ⟨w.heap.size, 0, none⟩) l1).trans y0
    have yc1 := (bc.cell (p := ⟨w.heap.size, 1, none⟩) l1).trans y1
    have yc2 := (bc.cell (p := ⟨w.heap.size, 2, none⟩) l1).trans y2
    have yc3 := (bc.cell (p := ⟨w.heap.size, 3, none⟩) l1).trans y3
    have lc : w.heap.size < wc.heap.size := by have := bc.size; omega
    have bwc : Below w.heap.size w wc := below_up b1 b1.size bc
    clear y0 y1 y2 y3
    have Ac := Lib.hid (HA.out.up bwc)
    have Bc := Lib.hid (HB.out.up bwc)
    have c9 : wc.cell? ⟨g, 9, none⟩ = some (.int .i64 a.st) := Ac.out.cell 9
    have lg := Ac.out.lt
    have HFV := Lib.hid hfv
    have HSE := Lib.hid (stated_eq a x.kind)
    have hrl : (ruleS x.kind).length ≤ 3 := by
      unfold ruleS
      repeat' split
      all_goals simp
    clear hfv lg1
    go_upto_region 7 with fail
    go_cut [8] (fun v8 wd => v8 = .bool ((x.kind == 2) && (a.st != 3)) ∧ wd = wc)
    case first =>
      cases hk2 : (x.kind == 2)
      · go_wp2_with fail
        go_meet
        exact ⟨by rw [hk2]; rfl, rfl⟩
      · cases hs3 : (a.st != 3)
        · go_wp2_with fail
          go_meet
          exact ⟨by rw [hk2, hs3]; rfl, rfl⟩
        · go_wp2_with fail
          go_meet
          exact ⟨by rw [hk2, hs3]; rfl, rfl⟩
    case rest =>
      obtain ⟨rfl, rfl⟩ := hcut
      obtain ⟨pre, hpre⟩ : ∃ pre, ((x.kind == 2) && (a.st != 3)) = pre := ⟨_, rfl⟩
      rw [hpre] at HSE ⊢
      clear hpre
      obtain ⟨wA, hwA⟩ : ∃ wA, wA = wc := ⟨_, rfl⟩
      subst hwA
      go_upto_region 8 with fail
      go_cut [62] (fun v62 wd => v62 = .bool (!statedD a x.kind) ∧ Below wA.heap.size wA wd)
      case first =>
        cases hdi : a.b.direct
        · cases hin : decide (a.st ∈ ruleS x.kind)
          · have HIN := Lib.hid hin
            have HCN : Hid (∀ W, Below wA.heap.size wA W → Calls Tryz.prog 83 #[.slice A (ruleS x.kind).length cc, .int .i64 a.st] W fun e w' => e = .returned (.bool false) ∧ Below W.heap.size W w') := Lib.hid (fun W hb => by have := contains_int_any (ruleS x.kind) A cc a.st W (hsl.up hb) (by omega); rw [hin] at this; exact this)
            clear hin
            (try rw [hrd] at p1)
            have HDN : Hid (∀ W, Below wA.heap.size wA W → Calls Tryz.prog 84 #[.pointer (some ⟨g, 0, none⟩)] W fun e w' => e = .returned (.bool false) ∧ W = w') := Lib.hid (fun W hb => by have := direct_any g a W (Ac.out.up hb); rw [hdi] at this; exact this)
            have HDI := Lib.hid hdi
            clear hdi
            have hgr := regrown_cells wA (B := wA.heap.size) (by omega)
            refine wp_region_quiet_below (by kernel_rfl) (by kernel_rfl) ?_
            repeat (first | (go_big_quiet_step ((first | (go_at_call 83; exact quiet_b (HCN.out _ (below_regrown _ _ _))) | (go_at_call 84; exact quiet_s (HDN.out _ (below_regrown _ _ _)))))) | (quiet_step ((first | (go_at_call 83; exact quiet_b (HCN.out _ (below_regrown _ _ _))) | (go_at_call 84; exact quiet_s (HDN.out _ (below_regrown _ _ _)))))))
            refine wpQuiet_nil ?_
            intro _ hw'
            obtain ⟨⟨dq, osq⟩, hw''⟩ := hw'
            subst hw''
            have hb3 := below_regrown wA dq osq
            clear hgr
            generalize grow (redrawn wA dq) osq = w3 at hb3 ⊢
            have hz3 := hb3.size
            (try simp only [World.size_alloc, World.size_setCell, World.size_drew, size_drewN', size_grow, size_redrawn] at hz3)
            obtain ⟨hc3, hf3⟩ := bcellB (B := wA.heap.size) hb3 (by first | omega | (simp only [World.size_alloc, World.size_setCell, World.size_drew, size_drewN', size_grow, size_redrawn]; omega))
            go_wp2_with fail
            go_meet
            exact ⟨by rw [HSE.out, HIN.out]; rfl, hb3⟩
          · cases hrd : ruleD x.kind
            · cases pre
              · have HIN := Lib.hid hin
                have HCN : Hid (∀ W, Below wA.heap.size wA W → Calls Tryz.prog 83 #[.slice A (ruleS x.kind).length cc, .int .i64 a.st] W fun e w' => e = .returned (.bool true) ∧ Below W.heap.size W w') := Lib.hid (fun W hb => by have := contains_int_any (ruleS x.kind) A cc a.st W (hsl.up hb) (by omega); rw [hin] at this; exact this)
                clear hin
                (try rw [hrd] at p1)
                have HDN : Hid (∀ W, Below wA.heap.size wA W → Calls Tryz.prog 84 #[.pointer (some ⟨g, 0, none⟩)] W fun e w' => e = .returned (.bool false) ∧ W = w') := Lib.hid (fun W hb => by have := direct_any g a W (Ac.out.up hb); rw [hdi] at this; exact this)
                have HDI := Lib.hid hdi
                clear hdi
                have hgr := regrown_cells wA (B := wA.heap.size) (by omega)
                refine wp_region_quiet_below (by kernel_rfl) (by kernel_rfl) ?_
                repeat (first | (go_big_quiet_step ((first | (go_at_call 83; exact quiet_b (HCN.out _ (below_regrown _ _ _))) | (go_at_call 84; exact quiet_s (HDN.out _ (below_regrown _ _ _)))))) | (quiet_step ((first | (go_at_call 83; exact quiet_b (HCN.out _ (below_regrown _ _ _))) | (go_at_call 84; exact quiet_s (HDN.out _ (below_regrown _ _ _)))))))
                refine wpQuiet_nil ?_
                intro _ hw'
                obtain ⟨⟨dq, osq⟩, hw''⟩ := hw'
                subst hw''
                have hb3 := below_regrown wA dq osq
                clear hgr
                generalize grow (redrawn wA dq) osq = w3 at hb3 ⊢
                have hz3 := hb3.size
                (try simp only [World.size_alloc, World.size_setCell, World.size_drew, size_drewN', size_grow, size_redrawn] at hz3)
                obtain ⟨hc3, hf3⟩ := bcellB (B := wA.heap.size) hb3 (by first | omega | (simp only [World.size_alloc, World.size_setCell, World.size_drew, size_drewN', size_grow, size_redrawn]; omega))
                go_wp2_with fail
                go_meet
                exact ⟨by rw [HSE.out, HIN.out, hrd]; rfl, hb3⟩
              · have HIN := Lib.hid hin
                have HCN : Hid (∀ W, Below wA.heap.size wA W → Calls Tryz.prog 83 #[.slice A (ruleS x.kind).length cc, .int .i64 a.st] W fun e w' => e = .returned (.bool true) ∧ Below W.heap.size W w') := Lib.hid (fun W hb => by have := contains_int_any (ruleS x.kind) A cc a.st W (hsl.up hb) (by omega); rw [hin] at this; exact this)
                clear hin
                (try rw [hrd] at p1)
                have HDN : Hid (∀ W, Below wA.heap.size wA W → Calls Tryz.prog 84 #[.pointer (some ⟨g, 0, none⟩)] W fun e w' => e = .returned (.bool false) ∧ W = w') := Lib.hid (fun W hb => by have := direct_any g a W (Ac.out.up hb); rw [hdi] at this; exact this)
                have HDI := Lib.hid hdi
                clear hdi
                have hgr := regrown_cells wA (B := wA.heap.size) (by omega)
                refine wp_region_quiet_below (by kernel_rfl) (by kernel_rfl) ?_
                repeat (first | (go_big_quiet_step ((first | (go_at_call 83; exact quiet_b (HCN.out _ (below_regrown _ _ _))) | (go_at_call 84; exact quiet_s (HDN.out _ (below_regrown _ _ _)))))) | (quiet_step ((first | (go_at_call 83; exact quiet_b (HCN.out _ (below_regrown _ _ _))) | (go_at_call 84; exact quiet_s (HDN.out _ (below_regrown _ _ _)))))))
                refine wpQuiet_nil ?_
                intro _ hw'
                obtain ⟨⟨dq, osq⟩, hw''⟩ := hw'
                subst hw''
                have hb3 := below_regrown wA dq osq
                clear hgr
                generalize grow (redrawn wA dq) osq = w3 at hb3 ⊢
                have hz3 := hb3.size
                (try simp only [World.size_alloc, World.size_setCell, World.size_drew, size_drewN', size_grow, size_redrawn] at hz3)
                obtain ⟨hc3, hf3⟩ := bcellB (B := wA.heap.size) hb3 (by first | omega | (simp only [World.size_alloc, World.size_setCell, World.size_drew, size_drewN', size_grow, size_redrawn]; omega))
                go_wp2_with fail
                go_meet
                exact ⟨by rw [HSE.out, HIN.out, hrd, HDI.out]; rfl, hb3⟩
            · have HIN := Lib.hid hin
              have HCN : Hid (∀ W, Below wA.heap.size wA W → Calls Tryz.prog 83 #[.slice A (ruleS x.kind).length cc, .int .i64 a.st] W fun e w' => e = .returned (.bool true) ∧ Below W.heap.size W w') := Lib.hid (fun W hb => by have := contains_int_any (ruleS x.kind) A cc a.st W (hsl.up hb) (by omega); rw [hin] at this; exact this)
              clear hin
              (try rw [hrd] at p1)
              have HDN : Hid (∀ W, Below wA.heap.size wA W → Calls Tryz.prog 84 #[.pointer (some ⟨g, 0, none⟩)] W fun e w' => e = .returned (.bool false) ∧ W = w') := Lib.hid (fun W hb => by have := direct_any g a W (Ac.out.up hb); rw [hdi] at this; exact this)
              have HDI := Lib.hid hdi
              clear hdi
              have hgr := regrown_cells wA (B := wA.heap.size) (by omega)
              refine wp_region_quiet_below (by kernel_rfl) (by kernel_rfl) ?_
              repeat (first | (go_big_quiet_step ((first | (go_at_call 83; exact quiet_b (HCN.out _ (below_regrown _ _ _))) | (go_at_call 84; exact quiet_s (HDN.out _ (below_regrown _ _ _)))))) | (quiet_step ((first | (go_at_call 83; exact quiet_b (HCN.out _ (below_regrown _ _ _))) | (go_at_call 84; exact quiet_s (HDN.out _ (below_regrown _ _ _)))))))
              refine wpQuiet_nil ?_
              intro _ hw'
              obtain ⟨⟨dq, osq⟩, hw''⟩ := hw'
              subst hw''
              have hb3 := below_regrown wA dq osq
              clear hgr
              generalize grow (redrawn wA dq) osq = w3 at hb3 ⊢
              have hz3 := hb3.size
              (try simp only [World.size_alloc, World.size_setCell, World.size_drew, size_drewN', size_grow, size_redrawn] at hz3)
              obtain ⟨hc3, hf3⟩ := bcellB (B := wA.heap.size) hb3 (by first | omega | (simp only [World.size_alloc, World.size_setCell, World.size_drew, size_drewN', size_grow, size_redrawn]; omega))
              go_wp2_with fail
              go_meet
              exact ⟨by rw [HSE.out, HIN.out, hrd, HDI.out]; rfl, hb3⟩
        · cases hin : decide (a.st ∈ ruleS x.kind)
          · have HIN := Lib.hid hin
            have HCN : Hid (∀ W, Below wA.heap.size wA W → Calls Tryz.prog 83 #[.slice A (ruleS x.kind).length cc, .int .i64 a.st] W fun e w' => e = .returned (.bool false) ∧ Below W.heap.size W w') := Lib.hid (fun W hb => by have := contains_int_any (ruleS x.kind) A cc a.st W (hsl.up hb) (by omega); rw [hin] at this; exact this)
            clear hin
            (try rw [hrd] at p1)
            have HDN : Hid (∀ W, Below wA.heap.size wA W → Calls Tryz.prog 84 #[.pointer (some ⟨g, 0, none⟩)] W fun e w' => e = .returned (.bool true) ∧ W = w') := Lib.hid (fun W hb => by have := direct_any g a W (Ac.out.up hb); rw [hdi] at this; exact this)
            have HDI := Lib.hid hdi
            clear hdi
            have hgr := regrown_cells wA (B := wA.heap.size) (by omega)
            refine wp_region_quiet_below (by kernel_rfl) (by kernel_rfl) ?_
            repeat (first | (go_big_quiet_step ((first | (go_at_call 83; exact quiet_b (HCN.out _ (below_regrown _ _ _))) | (go_at_call 84; exact quiet_s (HDN.out _ (below_regrown _ _ _)))))) | (quiet_step ((first | (go_at_call 83; exact quiet_b (HCN.out _ (below_regrown _ _ _))) | (go_at_call 84; exact quiet_s (HDN.out _ (below_regrown _ _ _)))))))
            refine wpQuiet_nil ?_
            intro _ hw'
            obtain ⟨⟨dq, osq⟩, hw''⟩ := hw'
            subst hw''
            have hb3 := below_regrown wA dq osq
            clear hgr
            generalize grow (redrawn wA dq) osq = w3 at hb3 ⊢
            have hz3 := hb3.size
            (try simp only [World.size_alloc, World.size_setCell, World.size_drew, size_drewN', size_grow, size_redrawn] at hz3)
            obtain ⟨hc3, hf3⟩ := bcellB (B := wA.heap.size) hb3 (by first | omega | (simp only [World.size_alloc, World.size_setCell, World.size_drew, size_drewN', size_grow, size_redrawn]; omega))
            go_wp2_with fail
            go_meet
            exact ⟨by rw [HSE.out, HIN.out]; rfl, hb3⟩
          · cases hrd : ruleD x.kind
            · cases pre
              · have HIN := Lib.hid hin
                have HCN : Hid (∀ W, Below wA.heap.size wA W → Calls Tryz.prog 83 #[.slice A (ruleS x.kind).length cc, .int .i64 a.st] W fun e w' => e = .returned (.bool true) ∧ Below W.heap.size W w') := Lib.hid (fun W hb => by have := contains_int_any (ruleS x.kind) A cc a.st W (hsl.up hb) (by omega); rw [hin] at this; exact this)
                clear hin
                (try rw [hrd] at p1)
                have HDN : Hid (∀ W, Below wA.heap.size wA W → Calls Tryz.prog 84 #[.pointer (some ⟨g, 0, none⟩)] W fun e w' => e = .returned (.bool true) ∧ W = w') := Lib.hid (fun W hb => by have := direct_any g a W (Ac.out.up hb); rw [hdi] at this; exact this)
                have HDI := Lib.hid hdi
                clear hdi
                have hgr := regrown_cells wA (B := wA.heap.size) (by omega)
                refine wp_region_quiet_below (by kernel_rfl) (by kernel_rfl) ?_
                repeat (first | (go_big_quiet_step ((first | (go_at_call 83; exact quiet_b (HCN.out _ (below_regrown _ _ _))) | (go_at_call 84; exact quiet_s (HDN.out _ (below_regrown _ _ _)))))) | (quiet_step ((first | (go_at_call 83; exact quiet_b (HCN.out _ (below_regrown _ _ _))) | (go_at_call 84; exact quiet_s (HDN.out _ (below_regrown _ _ _)))))))
                refine wpQuiet_nil ?_
                intro _ hw'
                obtain ⟨⟨dq, osq⟩, hw''⟩ := hw'
                subst hw''
                have hb3 := below_regrown wA dq osq
                clear hgr
                generalize grow (redrawn wA dq) osq = w3 at hb3 ⊢
                have hz3 := hb3.size
                (try simp only [World.size_alloc, World.size_setCell, World.size_drew, size_drewN', size_grow, size_redrawn] at hz3)
                obtain ⟨hc3, hf3⟩ := bcellB (B := wA.heap.size) hb3 (by first | omega | (simp only [World.size_alloc, World.size_setCell, World.size_drew, size_drewN', size_grow, size_redrawn]; omega))
                go_wp2_with fail
                go_meet
                exact ⟨by rw [HSE.out, HIN.out, hrd]; rfl, hb3⟩
              · have HIN := Lib.hid hin
                have HCN : Hid (∀ W, Below wA.heap.size wA W → Calls Tryz.prog 83 #[.slice A (ruleS x.kind).length cc, .int .i64 a.st] W fun e w' => e = .returned (.bool true) ∧ Below W.heap.size W w') := Lib.hid (fun W hb => by have := contains_int_any (ruleS x.kind) A cc a.st W (hsl.up hb) (by omega); rw [hin] at this; exact this)
                clear hin
                (try rw [hrd] at p1)
                have HDN : Hid (∀ W, Below wA.heap.size wA W → Calls Tryz.prog 84 #[.pointer (some ⟨g, 0, none⟩)] W fun e w' => e = .returned (.bool true) ∧ W = w') := Lib.hid (fun W hb => by have := direct_any g a W (Ac.out.up hb); rw [hdi] at this; exact this)
                have HDI := Lib.hid hdi
                clear hdi
                have hgr := regrown_cells wA (B := wA.heap.size) (by omega)
                refine wp_region_quiet_below (by kernel_rfl) (by kernel_rfl) ?_
                repeat (first | (go_big_quiet_step ((first | (go_at_call 83; exact quiet_b (HCN.out _ (below_regrown _ _ _))) | (go_at_call 84; exact quiet_s (HDN.out _ (below_regrown _ _ _)))))) | (quiet_step ((first | (go_at_call 83; exact quiet_b (HCN.out _ (below_regrown _ _ _))) | (go_at_call 84; exact quiet_s (HDN.out _ (below_regrown _ _ _)))))))
                refine wpQuiet_nil ?_
                intro _ hw'
                obtain ⟨⟨dq, osq⟩, hw''⟩ := hw'
                subst hw''
                have hb3 := below_regrown wA dq osq
                clear hgr
                generalize grow (redrawn wA dq) osq = w3 at hb3 ⊢
                have hz3 := hb3.size
                (try simp only [World.size_alloc, World.size_setCell, World.size_drew, size_drewN', size_grow, size_redrawn] at hz3)
                obtain ⟨hc3, hf3⟩ := bcellB (B := wA.heap.size) hb3 (by first | omega | (simp only [World.size_alloc, World.size_setCell, World.size_drew, size_drewN', size_grow, size_redrawn]; omega))
                go_wp2_with fail
                go_meet
                exact ⟨by rw [HSE.out, HIN.out, hrd, HDI.out]; rfl, hb3⟩
            · have HIN := Lib.hid hin
              have HCN : Hid (∀ W, Below wA.heap.size wA W → Calls Tryz.prog 83 #[.slice A (ruleS x.kind).length cc, .int .i64 a.st] W fun e w' => e = .returned (.bool true) ∧ Below W.heap.size W w') := Lib.hid (fun W hb => by have := contains_int_any (ruleS x.kind) A cc a.st W (hsl.up hb) (by omega); rw [hin] at this; exact this)
              clear hin
              (try rw [hrd] at p1)
              have HDN : Hid (∀ W, Below wA.heap.size wA W → Calls Tryz.prog 84 #[.pointer (some ⟨g, 0, none⟩)] W fun e w' => e = .returned (.bool true) ∧ W = w') := Lib.hid (fun W hb => by have := direct_any g a W (Ac.out.up hb); rw [hdi] at this; exact this)
              have HDI := Lib.hid hdi
              clear hdi
              have hgr := regrown_cells wA (B := wA.heap.size) (by omega)
              refine wp_region_quiet_below (by kernel_rfl) (by kernel_rfl) ?_
              repeat (first | (go_big_quiet_step ((first | (go_at_call 83; exact quiet_b (HCN.out _ (below_regrown _ _ _))) | (go_at_call 84; exact quiet_s (HDN.out _ (below_regrown _ _ _)))))) | (quiet_step ((first | (go_at_call 83; exact quiet_b (HCN.out _ (below_regrown _ _ _))) | (go_at_call 84; exact quiet_s (HDN.out _ (below_regrown _ _ _)))))))
              refine wpQuiet_nil ?_
              intro _ hw'
              obtain ⟨⟨dq, osq⟩, hw''⟩ := hw'
              subst hw''
              have hb3 := below_regrown wA dq osq
              clear hgr
              generalize grow (redrawn wA dq) osq = w3 at hb3 ⊢
              have hz3 := hb3.size
              (try simp only [World.size_alloc, World.size_setCell, World.size_drew, size_drewN', size_grow, size_redrawn] at hz3)
              obtain ⟨hc3, hf3⟩ := bcellB (B := wA.heap.size) hb3 (by first | omega | (simp only [World.size_alloc, World.size_setCell, World.size_drew, size_drewN', size_grow, size_redrawn]; omega))
              go_wp2_with fail
              go_meet
              exact ⟨by rw [HSE.out, HIN.out, hrd, HDI.out]; rfl, hb3⟩
      case rest =>
        obtain ⟨rfl, bd⟩ := hcut
        have B3 := Bc.out.up bd
        have A3 := Ac.out.up bd
        have bwd : Below w.heap.size w wc := below_up bwc bwc.size bd
        have r0 := (bd.cell (p := ⟨w.heap.size, 0, none⟩) lc).trans yc0
        have r1 := (bd.cell (p := ⟨w.heap.size, 1, none⟩) lc).trans yc1
        have r2 := (bd.cell (p := ⟨w.heap.size, 2, none⟩) lc).trans yc2
        have r3 := (bd.cell (p := ⟨w.heap.size, 3, none⟩) lc).trans yc3
        have lw : w.heap.size < wc.heap.size := by have := bd.size; omega
        have lR : bR < wc.heap.size := by have := bd.size; omega
        have p2' := (bd.cell (p := ⟨bR, 2, none⟩) hbR).trans p2
        have HC4 := Lib.hid (deed_fn gc gm base V At ct es ev g a x n L wc B3 A3 hgt.1 hgt.2.1 hl hao hn hce (HTS.out.below (bwd.mono hLe)) (by have := bwd.size; omega) htl hpt k0 k1 HK.out HC.out)
        have HB3 := Lib.hid B3
        have HA3 := Lib.hid A3
        clear yc0 yc1 yc2 yc3 p0 p1 p2 c9 hsl B3 A3
        cases hst : statedD a x.kind
        · go_wp2_with fail
          go_ret
          refine ⟨g, HO.out, ?_⟩
          rw [hst, if_neg (by simp)]
          exact ⟨rfl, bwd⟩
        · rcases fn_cases x.kind with hf | hf | hf | hf | hf | hf <;> rw [hf] at p2' HC4 <;> clear hf
          all_goals
            go_wp2_with fail
            refine HC4.out.mono ?_
            rintro e w4 ⟨hret, ⟨ev4, hbk4, hturn4⟩, hacc4⟩
            subst hret
            go_wp2_with fail
            go_ret
            refine ⟨g, HO.out, ?_⟩
            rw [if_pos hst]
            exact ⟨rfl, ⟨ev4, hbk4, ((Turn.refl [gc, g] base w).up bwd le0).trans hturn4⟩, hacc4⟩
theorem step_free (gc gm base : Nat) (bl : List Nat) (V : Env) (At : Option Addr) (ct L : Nat) (c : Crs) (ev : Value) (x : Deed) (n : Nat) (i : Nat) (w : World) (h : CIn w gc gm base bl V At ct L c ev)
    (hi : i < c.ac.length) (hi' : i < bl.length) (hs : c.ac[i].b.stay = x.stay) (hday : c.day = x.day) (hl : c.es.length ≤ 3000) (hao : AccOk c.ac[i] n) (hn : n ≤ 500) (hce : CentsOk c.es) (htl : V.ts.length ≤ 1000000000000) (hpt : partOk V.p V.d = true)
    (k0 : 1 ≤ x.kind) (k1 : x.kind ≤ 8) (hk : x.kind = 1 ∨ x.kind = 4) (hc : x.kind = 2 ∨ x.kind = 8 ∨ x.kind = 7 → 1 ≤ x.cents ∧ x.cents ≤ 1000000000) :
    Calls Tryz.prog 47 #[.pointer (some ⟨gc, 0, none⟩), x.v] w (Stepped gc gm base V At ct ev bl[i]? c.es c.ac[i] x w) := by
  obtain ⟨g, hg⟩ : ∃ g, bl[i] = g := ⟨_, rfl⟩
  have HLK := Lib.hid (fun (W : World) (hb : Below w.heap.size w W) => ((h.up hb).lookup x.stay (by rw [← hs]; have := Bill.ok_iff.1 hao.b; omega) (by rw [← hs]; have := Bill.ok_iff.1 hao.b; omega)).1 i hi hi' hs)
  rw [hg] at HLK
  have hgt := h.lt _ (List.getElem_mem hi')
  have hA := h.acc i hi hi'
  rw [hg] at hgt hA
  have hgo : bl[i]? = some g := by rw [List.getElem?_eq_getElem hi', hg]
  have hbk := h.bk
  rw [hday] at hbk
  have hts := h.ts
  have hLe : L ≤ w.heap.size := by have := h.low; have := hbk.lt; have := hbk.le; omega
  clear h
  generalize c.ac[i] = a at *
  generalize c.es = es at *
  have hgc := hbk.lt
  have le0 := hbk.le
  have lgc : gc < w.heap.size := by omega
  have q2 : w.cell? ⟨gc, 2, none⟩ = some (.map (some gm)) := hbk.cell 2
  have k9 : (x.kind == 9) = false := by rw [beq_eq_false_iff_ne]; omega
  have HB := Lib.hid hbk
  have HA := Lib.hid hA
  have HO := Lib.hid hgo
  have HK := Lib.hid hk
  have HC := Lib.hid hc
  have HTS := Lib.hid hts
  clear hbk hA hgo hs hday hk hc hts
  go_enter Tryz.func47, Tryz.ntmps47
  go_wp2_with fail
  refine name_world (fun w1 hw1 => ?_)
  have b1 : Below w.heap.size w w1 := by rw [hw1]; exact (by repeat' (first | (with_reducible exact Below.refl _ _) | (with_reducible assumption) | (with_reducible refine below_drewN ?_ _) | (with_reducible refine Below.drew ?_) | (with_reducible refine below_regrown_up _ _ ?_ ?_) | (with_reducible refine Below.alloc ?_ ?_ _) | (with_reducible refine Below.setCell ?_ ?_ _) | (with_reducible refine below_up ?_ ?_ (by assumption)) | (with_reducible exact Nat.le_refl _) | omega | (simp; done) | (simp; omega)))
  have y0 : w1.cell? ⟨w.heap.size, 0, none⟩ = some (.int .i64 x.kind) := by rw [hw1]; go_simp
  have y1 : w1.cell? ⟨w.heap.size, 1, none⟩ = some (.int .i64 x.day) := by rw [hw1]; go_simp
  have y2 : w1.cell? ⟨w.heap.size, 2, none⟩ = some (.int .i64 x.stay) := by rw [hw1]; go_simp
  have y3 : w1.cell? ⟨w.heap.size, 3, none⟩ = some (.int .i64 x.cents) := by rw [hw1]; go_simp
  have r2 : w1.cell? ⟨gc, 2, none⟩ = some (.map (some gm)) := (b1.cell (p := ⟨gc, 2, none⟩) lgc).trans q2
  have l1 : w.heap.size < w1.heap.size := by rw [hw1]; simp
  have l1' : w.heap.size < w1.heap.size + 1 := by omega
  have l1d : ∀ n, w.heap.size < (w1.drewN n).heap.size := fun _ => l1
  have lg1 : gc < w1.heap.size := by omega
  clear hw1 q2
  have hrun : ∀ n, (Instr.lookup 92 (.map (some gm)) (.int .i64 x.stay) true).run Tryz.prog (w1.drewN n) = .ok (.tuple #[.pointer (some ⟨g, 0, none⟩), .bool true]) (w1.drewN n) := fun n => HLK.out _ (below_drewN b1 n)
  go_quiet (fail)
  go_upto_region 6 with fail
  clear hrun
  have HW1 := Lib.hid (And.intro y0 (And.intro y1 (And.intro y2 y3)))
  go_cut [7] (fun v7 wc => RuleCell w1 gc x.kind v7 wc)
  case first =>
    refine name_world (fun wq hwq => ?_)
    have bq : Below w1.heap.size w1 wq := by rw [hwq]; exact below_drewN (Below.refl _ _) _
    have zq : w1.heap.size ≤ wq.heap.size := bq.size
    have y0q : wq.cell? ⟨w.heap.size, 0, none⟩ = some (.int .i64 x.kind) := (bq.cell (p := ⟨w.heap.size, 0, none⟩) l1).trans y0
    have lq : w.heap.size < wq.heap.size := by omega
    have lq' : w.heap.size < wq.heap.size + 1 := by omega
    clear hwq y0 y1 y2 y3 r2 l1d
    have HQ := Lib.hid (And.intro bq y0q)
    go_region_law (go_simp; go_at_call 82; go_loud (refine (rules_any gc _).mono ?_); rintro e w2 ⟨⟨gmR, rfl, HRU⟩, b2⟩; obtain ⟨v, HV⟩ := HRU x.kind k0 k1; obtain ⟨hrun0, hR⟩ := HV w2 (.of_below (Below.refl _ _)); obtain ⟨A, cc, fv, rfl, hsl, hfv⟩ := hR; obtain ⟨bb, rfl, hbb, hbc⟩ := rule_free hfv HK.out; have HV' := Lib.hid HV; have hrun1 : ∀ o, (Instr.lookup 131 (.map (some gmR)) (.int .i64 x.kind) false).run Tryz.prog (w2.alloc o) = .ok (.agg #[.slice A (ruleS x.kind).length cc, .bool (ruleD x.kind), .func (.func 122) #[] #[.pointer (some ⟨bb, 0, none⟩)]]) (w2.alloc o) := fun o => (HV'.out _ (.of_below ((Below.refl _ _).alloc (Nat.le_refl _) _))).1; obtain ⟨hc2, hf2⟩ := bcell b2; (try simp only [World.size_alloc, World.size_drew, size_drewN'] at hc2 hf2); have lz2 : w.heap.size < w2.heap.size := (by have hz := b2.size; (try simp only [World.size_alloc, World.size_drew, size_drewN'] at hz); omega); clear HV HRU hsl hfv; have HB2 := Lib.hid b2; clear b2)
    all_goals
      have b2 := HB2.out
      have z2 := b2.size
      clear hc2 hf2 hrun0 hrun1
      (try simp only [World.size_alloc, World.size_drew, size_drewN'] at z2)
      have HZ := Lib.hid (fun (k : Nat) (hk : k < wq.heap.size) => b2.block k (by simp; omega))
      go_wp2_with fail
      go_meet
      first
        | (exact meet_new (HV'.out _ (.of_below ((Below.refl _ _).alloc (Nat.le_refl _) _))).2 (below_up HQ.out.1 HQ.out.1.size (below_up (B := wq.heap.size) (by repeat' (first | (with_reducible exact Below.refl _ _) | (with_reducible assumption) | (with_reducible refine below_drewN ?_ _) | (with_reducible refine Below.drew ?_) | (with_reducible refine below_regrown_up _ _ ?_ ?_) | (with_reducible refine Below.alloc ?_ ?_ _) | (with_reducible refine Below.setCell ?_ ?_ _) | (with_reducible refine below_up ?_ ?_ (by assumption)) | (with_reducible exact Nat.le_refl _) | omega | (simp; done) | (simp; omega))) (by omega) ((Below.refl _ _).alloc (Nat.le_refl _) _))))
        | (have hbw : Below wq.heap.size wq w2 := (by repeat' (first | (with_reducible exact Below.refl _ _) | (with_reducible assumption) | (with_reducible refine below_drewN ?_ _) | (with_reducible refine Below.drew ?_) | (with_reducible refine below_regrown_up _ _ ?_ ?_) | (with_reducible refine Below.alloc ?_ ?_ _) | (with_reducible refine Below.setCell ?_ ?_ _) | (with_reducible refine below_up ?_ ?_ (by assumption)) | (with_reducible exact Nat.le_refl _) | omega | (simp; done) | (simp; omega)))
           have hb1w : Below w1.heap.size w1 w2 := below_up HQ.out.1 HQ.out.1.size hbw
           exact meet_old (z0 := .slice none 0 0) (z1 := .bool false) (z2 := .nilFunc) (t := 130) ((b2.block wq.heap.size (by simp)).trans (heap_alloc_new wq _)) (HV'.out _ ((((Tops.of_below (Below.refl _ _)).set (by simp) _ _).set (by simp) _ _).set (by simp) _ _)).2 (((hb1w.setCell (by show w1.heap.size ≤ wq.heap.size; omega) _).setCell (by show w1.heap.size ≤ wq.heap.size; omega) _).setCell (by show w1.heap.size ≤ wq.heap.size; omega) _))
  case rest =>
    obtain ⟨bR, A, cc, fv, rfl, hbR, p0, p1, p2, hsl, hfv, bc⟩ := hcut
    obtain ⟨bb, rfl, hbb, hbc⟩ := rule_free hfv HK.out
    clear y0 y1 y2 y3 r2 l1d l1'
    obtain ⟨y0, y1, y2, y3⟩ := HW1.out
    have yc0 := (bc.cell (p := ⟨w.heap.size, 0, none⟩) l1).trans y0
    have yc1 := (bc.cell (p := ⟨w.heap.size, 1, none⟩) l1).trans y1
    have yc2 := (bc.cell (p := ⟨w.heap.size, 2, none⟩) l1).trans y2
    have yc3 := (bc.cell (p := ⟨w.heap.size, 3, none⟩) l1).trans y3
    have lc : w.heap.size < wc.heap.size := by have := bc.size; omega
    have bwc : Below w.heap.size w wc := below_up b1 b1.size bc
    clear y0 y1 y2 y3
    have Ac := Lib.hid (HA.out.up bwc)
    have Bc := Lib.hid (HB.out.up bwc)
    have c9 : wc.cell? ⟨g, 9, none⟩ = some (.int .i64 a.st) := Ac.out.cell 9
    have lg := Ac.out.lt
    have HFV := Lib.hid hfv
    have HSE := Lib.hid (stated_eq a x.kind)
    have hrl : (ruleS x.kind).length ≤ 3 := by
      unfold ruleS
      repeat' split
      all_goals simp
    clear hfv lg1
    go_upto_region 7 with fail
    go_cut [8] (fun v8 wd => v8 = .bool ((x.kind == 2) && (a.st != 3)) ∧ wd = wc)
    case first =>
      cases hk2 : (x.kind == 2)
      · go_wp2_with fail
        go_meet
        exact ⟨by rw [hk2]; rfl, rfl⟩
      · cases hs3 : (a.st != 3)
        · go_wp2_with fail
          go_meet
          exact ⟨by rw [hk2, hs3]; rfl, rfl⟩
        · go_wp2_with fail
          go_meet
          exact ⟨by rw [hk2, hs3]; rfl, rfl⟩
    case rest =>
      obtain ⟨rfl, rfl⟩ := hcut
      obtain ⟨pre, hpre⟩ : ∃ pre, ((x.kind == 2) && (a.st != 3)) = pre := ⟨_, rfl⟩
      rw [hpre] at HSE ⊢
      clear hpre
      obtain ⟨wA, hwA⟩ : ∃ wA, wA = wc := ⟨_, rfl⟩
      subst hwA
      go_upto_region 8 with fail
      go_cut [62] (fun v62 wd => v62 = .bool (!statedD a x.kind) ∧ Below wA.heap.size wA wd)
      case first =>
        cases hdi : a.b.direct
        · cases hin : decide (a.st ∈ ruleS x.kind)
          · have HIN := Lib.hid hin
            have HCN : Hid (∀ W, Below wA.heap.size wA W → Calls Tryz.prog 83 #[.slice A (ruleS x.kind).length cc, .int .i64 a.st] W fun e w' => e = .returned (.bool false) ∧ Below W.heap.size W w') := Lib.hid (fun W hb => by have := contains_int_any (ruleS x.kind) A cc a.st W (hsl.up hb) (by omega); rw [hin] at this; exact this)
            clear hin
            (try rw [hrd] at p1)
            have HDN : Hid (∀ W, Below wA.heap.size wA W → Calls Tryz.prog 84 #[.pointer (some ⟨g, 0, none⟩)] W fun e w' => e = .returned (.bool false) ∧ W = w') := Lib.hid (fun W hb => by have := direct_any g a W (Ac.out.up hb); rw [hdi] at this; exact this)
            have HDI := Lib.hid hdi
            clear hdi
            have hgr := regrown_cells wA (B := wA.heap.size) (by omega)
            refine wp_region_quiet_below (by kernel_rfl) (by kernel_rfl) ?_
            repeat (first | (go_big_quiet_step ((first | (go_at_call 83; exact quiet_b (HCN.out _ (below_regrown _ _ _))) | (go_at_call 84; exact quiet_s (HDN.out _ (below_regrown _ _ _)))))) | (quiet_step ((first | (go_at_call 83; exact quiet_b (HCN.out _ (below_regrown _ _ _))) | (go_at_call 84; exact quiet_s (HDN.out _ (below_regrown _ _ _)))))))
            refine wpQuiet_nil ?_
            intro _ hw'
            obtain ⟨⟨dq, osq⟩, hw''⟩ := hw'
            subst hw''
            have hb3 := below_regrown wA dq osq
            clear hgr
            generalize grow (redrawn wA dq) osq = w3 at hb3 ⊢
            have hz3 := hb3.size
            (try simp only [World.size_alloc, World.size_setCell, World.size_drew, size_drewN', size_grow, size_redrawn] at hz3)
            obtain ⟨hc3, hf3⟩ := bcellB (B := wA.heap.size) hb3 (by first | omega | (simp only [World.size_alloc, World.size_setCell, World.size_drew, size_drewN', size_grow, size_redrawn]; omega))
            go_wp2_with fail
            go_meet
            exact ⟨by rw [HSE.out, HIN.out]; rfl, hb3⟩
          · cases hrd : ruleD x.kind
            · cases pre
              · have HIN := Lib.hid hin
                have HCN : Hid (∀ W, Below wA.heap.size wA W → Calls Tryz.prog 83 #[.slice A (ruleS x.kind).length cc, .int .i64 a.st] W fun e w' => e = .returned (.bool true) ∧ Below W.heap.size W w') := Lib.hid (fun W hb => by have := contains_int_any (ruleS x.kind) A cc a.st W (hsl.up hb) (by omega); rw [hin] at this; exact this)
                clear hin
                (try rw [hrd] at p1)
                have HDN : Hid (∀ W, Below wA.heap.size wA W → Calls Tryz.prog 84 #[.pointer (some ⟨g, 0, none⟩)] W fun e w' => e = .returned (.bool false) ∧ W = w') := Lib.hid (fun W hb => by have := direct_any g a W (Ac.out.up hb); rw [hdi] at this; exact this)
                have HDI := Lib.hid hdi
                clear hdi
                have hgr := regrown_cells wA (B := wA.heap.size) (by omega)
                refine wp_region_quiet_below (by kernel_rfl) (by kernel_rfl) ?_
                repeat (first | (go_big_quiet_step ((first | (go_at_call 83; exact quiet_b (HCN.out _ (below_regrown _ _ _))) | (go_at_call 84; exact quiet_s (HDN.out _ (below_regrown _ _ _)))))) | (quiet_step ((first | (go_at_call 83; exact quiet_b (HCN.out _ (below_regrown _ _ _))) | (go_at_call 84; exact quiet_s (HDN.out _ (below_regrown _ _ _)))))))
                refine wpQuiet_nil ?_
                intro _ hw'
                obtain ⟨⟨dq, osq⟩, hw''⟩ := hw'
                subst hw''
                have hb3 := below_regrown wA dq osq
                clear hgr
                generalize grow (redrawn wA dq) osq = w3 at hb3 ⊢
                have hz3 := hb3.size
                (try simp only [World.size_alloc, World.size_setCell, World.size_drew, size_drewN', size_grow, size_redrawn] at hz3)
                obtain ⟨hc3, hf3⟩ := bcellB (B := wA.heap.size) hb3 (by first | omega | (simp only [World.size_alloc, World.size_setCell, World.size_drew, size_drewN', size_grow, size_redrawn]; omega))
                go_wp2_with fail
                go_meet
                exact ⟨by rw [HSE.out, HIN.out, hrd]; rfl, hb3⟩
              · have HIN := Lib.hid hin
                have HCN : Hid (∀ W, Below wA.heap.size wA W → Calls Tryz.prog 83 #[.slice A (ruleS x.kind).length cc, .int .i64 a.st] W fun e w' => e = .returned (.bool true) ∧ Below W.heap.size W w') := Lib.hid (fun W hb => by have := contains_int_any (ruleS x.kind) A cc a.st W (hsl.up hb) (by omega); rw [hin] at this; exact this)
                clear hin
                (try rw [hrd] at p1)
                have HDN : Hid (∀ W, Below wA.heap.size wA W → Calls Tryz.prog 84 #[.pointer (some ⟨g, 0, none⟩)] W fun e w' => e = .returned (.bool false) ∧ W = w') := Lib.hid (fun W hb => by have := direct_any g a W (Ac.out.up hb); rw [hdi] at this; exact this)
                have HDI := Lib.hid hdi
                clear hdi
                have hgr := regrown_cells wA (B := wA.heap.size) (by omega)
                refine wp_region_quiet_below (by kernel_rfl) (by kernel_rfl) ?_
                repeat (first | (go_big_quiet_step ((first | (go_at_call 83; exact quiet_b (HCN.out _ (below_regrown _ _ _))) | (go_at_call 84; exact quiet_s (HDN.out _ (below_regrown _ _ _)))))) | (quiet_step ((first | (go_at_call 83; exact quiet_b (HCN.out _ (below_regrown _ _ _))) | (go_at_call 84; exact quiet_s (HDN.out _ (below_regrown _ _ _)))))))
                refine wpQuiet_nil ?_
                intro _ hw'
                obtain ⟨⟨dq, osq⟩, hw''⟩ := hw'
                subst hw''
                have hb3 := below_regrown wA dq osq
                clear hgr
                generalize grow (redrawn wA dq) osq = w3 at hb3 ⊢
                have hz3 := hb3.size
                (try simp only [World.size_alloc, World.size_setCell, World.size_drew, size_drewN', size_grow, size_redrawn] at hz3)
                obtain ⟨hc3, hf3⟩ := bcellB (B := wA.heap.size) hb3 (by first | omega | (simp only [World.size_alloc, World.size_setCell, World.size_drew, size_drewN', size_grow, size_redrawn]; omega))
                go_wp2_with fail
                go_meet
                exact ⟨by rw [HSE.out, HIN.out, hrd, HDI.out]; rfl, hb3⟩
            · have HIN := Lib.hid hin
              have HCN : Hid (∀ W, Below wA.heap.size wA W → Calls Tryz.prog 83 #[.slice A (ruleS x.kind).length cc, .int .i64 a.st] W fun e w' => e = .returned (.bool true) ∧ Below W.heap.size W w') := Lib.hid (fun W hb => by have := contains_int_any (ruleS x.kind) A cc a.st W (hsl.up hb) (by omega); rw [hin] at this; exact this)
              clear hin
              (try rw [hrd] at p1)
              have HDN : Hid (∀ W, Below wA.heap.size wA W → Calls Tryz.prog 84 #[.pointer (some ⟨g, 0, none⟩)] W fun e w' => e = .returned (.bool false) ∧ W = w') := Lib.hid (fun W hb => by have := direct_any g a W (Ac.out.up hb); rw [hdi] at this; exact this)
              have HDI := Lib.hid hdi
              clear hdi
              have hgr := regrown_cells wA (B := wA.heap.size) (by omega)
              refine wp_region_quiet_below (by kernel_rfl) (by kernel_rfl) ?_
              repeat (first | (go_big_quiet_step ((first | (go_at_call 83; exact quiet_b (HCN.out _ (below_regrown _ _ _))) | (go_at_call 84; exact quiet_s (HDN.out _ (below_regrown _ _ _)))))) | (quiet_step ((first | (go_at_call 83; exact quiet_b (HCN.out _ (below_regrown _ _ _))) | (go_at_call 84; exact quiet_s (HDN.out _ (below_regrown _ _ _)))))))
              refine wpQuiet_nil ?_
              intro _ hw'
              obtain ⟨⟨dq, osq⟩, hw''⟩ := hw'
              subst hw''
              have hb3 := below_regrown wA dq osq
              clear hgr
              generalize grow (redrawn wA dq) osq = w3 at hb3 ⊢
              have hz3 := hb3.size
              (try simp only [World.size_alloc, World.size_setCell, World.size_drew, size_drewN', size_grow, size_redrawn] at hz3)
              obtain ⟨hc3, hf3⟩ := bcellB (B := wA.heap.size) hb3 (by first | omega | (simp only [World.size_alloc, World.size_setCell, World.size_drew, size_drewN', size_grow, size_redrawn]; omega))
              go_wp2_with fail
              go_meet
              exact ⟨by rw [HSE.out, HIN.out, hrd, HDI.out]; rfl, hb3⟩
        · cases hin : decide (a.st ∈ ruleS x.kind)
          · have HIN := Lib.hid hin
            have HCN : Hid (∀ W, Below wA.heap.size wA W → Calls Tryz.prog 83 #[.slice A (ruleS x.kind).length cc, .int .i64 a.st] W fun e w' => e = .returned (.bool false) ∧ Below W.heap.size W w') := Lib.hid (fun W hb => by have := contains_int_any (ruleS x.kind) A cc a.st W (hsl.up hb) (by omega); rw [hin] at this; exact this)
            clear hin
            (try rw [hrd] at p1)
            have HDN : Hid (∀ W, Below wA.heap.size wA W → Calls Tryz.prog 84 #[.pointer (some ⟨g, 0, none⟩)] W fun e w' => e = .returned (.bool true) ∧ W = w') := Lib.hid (fun W hb => by have := direct_any g a W (Ac.out.up hb); rw [hdi] at this; exact this)
            have HDI := Lib.hid hdi
            clear hdi
            have hgr := regrown_cells wA (B := wA.heap.size) (by omega)
            refine wp_region_quiet_below (by kernel_rfl) (by kernel_rfl) ?_
            repeat (first | (go_big_quiet_step ((first | (go_at_call 83; exact quiet_b (HCN.out _ (below_regrown _ _ _))) | (go_at_call 84; exact quiet_s (HDN.out _ (below_regrown _ _ _)))))) | (quiet_step ((first | (go_at_call 83; exact quiet_b (HCN.out _ (below_regrown _ _ _))) | (go_at_call 84; exact quiet_s (HDN.out _ (below_regrown _ _ _)))))))
            refine wpQuiet_nil ?_
            intro _ hw'
            obtain ⟨⟨dq, osq⟩, hw''⟩ := hw'
            subst hw''
            have hb3 := below_regrown wA dq osq
            clear hgr
            generalize grow (redrawn wA dq) osq = w3 at hb3 ⊢
            have hz3 := hb3.size
            (try simp only [World.size_alloc, World.size_setCell, World.size_drew, size_drewN', size_grow, size_redrawn] at hz3)
            obtain ⟨hc3, hf3⟩ := bcellB (B := wA.heap.size) hb3 (by first | omega | (simp only [World.size_alloc, World.size_setCell, World.size_drew, size_drewN', size_grow, size_redrawn]; omega))
            go_wp2_with fail
            go_meet
            exact ⟨by rw [HSE.out, HIN.out]; rfl, hb3⟩
          · cases hrd : ruleD x.kind
            · cases pre
              · have HIN := Lib.hid hin
                have HCN : Hid (∀ W, Below wA.heap.size wA W → Calls Tryz.prog 83 #[.slice A (ruleS x.kind).length cc, .int .i64 a.st] W fun e w' => e = .returned (.bool true) ∧ Below W.heap.size W w') := Lib.hid (fun W hb => by have := contains_int_any (ruleS x.kind) A cc a.st W (hsl.up hb) (by omega); rw [hin] at this; exact this)
                clear hin
                (try rw [hrd] at p1)
                have HDN : Hid (∀ W, Below wA.heap.size wA W → Calls Tryz.prog 84 #[.pointer (some ⟨g, 0, none⟩)] W fun e w' => e = .returned (.bool true) ∧ W = w') := Lib.hid (fun W hb => by have := direct_any g a W (Ac.out.up hb); rw [hdi] at this; exact this)
                have HDI := Lib.hid hdi
                clear hdi
                have hgr := regrown_cells wA (B := wA.heap.size) (by omega)
                refine wp_region_quiet_below (by kernel_rfl) (by kernel_rfl) ?_
                repeat (first | (go_big_quiet_step ((first | (go_at_call 83; exact quiet_b (HCN.out _ (below_regrown _ _ _))) | (go_at_call 84; exact quiet_s (HDN.out _ (below_regrown _ _ _)))))) | (quiet_step ((first | (go_at_call 83; exact quiet_b (HCN.out _ (below_regrown _ _ _))) | (go_at_call 84; exact quiet_s (HDN.out _ (below_regrown _ _ _)))))))
                refine wpQuiet_nil ?_
                intro _ hw'
                obtain ⟨⟨dq, osq⟩, hw''⟩ := hw'
                subst hw''
                have hb3 := below_regrown wA dq osq
                clear hgr
                generalize grow (redrawn wA dq) osq = w3 at hb3 ⊢
                have hz3 := hb3.size
                (try simp only [World.size_alloc, World.size_setCell, World.size_drew, size_drewN', size_grow, size_redrawn] at hz3)
                obtain ⟨hc3, hf3⟩ := bcellB (B := wA.heap.size) hb3 (by first | omega | (simp only [World.size_alloc, World.size_setCell, World.size_drew, size_drewN', size_grow, size_redrawn]; omega))
                go_wp2_with fail
                go_meet
                exact ⟨by rw [HSE.out, HIN.out, hrd]; rfl, hb3⟩
              · have HIN := Lib.hid hin
                have HCN : Hid (∀ W, Below wA.heap.size wA W → Calls Tryz.prog 83 #[.slice A (ruleS x.kind).length cc, .int .i64 a.st] W fun e w' => e = .returned (.bool true) ∧ Below W.heap.size W w') := Lib.hid (fun W hb => by have := contains_int_any (ruleS x.kind) A cc a.st W (hsl.up hb) (by omega); rw [hin] at this; exact this)
                clear hin
                (try rw [hrd] at p1)
                have HDN : Hid (∀ W, Below wA.heap.size wA W → Calls Tryz.prog 84 #[.pointer (some ⟨g, 0, none⟩)] W fun e w' => e = .returned (.bool true) ∧ W = w') := Lib.hid (fun W hb => by have := direct_any g a W (Ac.out.up hb); rw [hdi] at this; exact this)
                have HDI := Lib.hid hdi
                clear hdi
                have hgr := regrown_cells wA (B := wA.heap.size) (by omega)
                refine wp_region_quiet_below (by kernel_rfl) (by kernel_rfl) ?_
                repeat (first | (go_big_quiet_step ((first | (go_at_call 83; exact quiet_b (HCN.out _ (below_regrown _ _ _))) | (go_at_call 84; exact quiet_s (HDN.out _ (below_regrown _ _ _)))))) | (quiet_step ((first | (go_at_call 83; exact quiet_b (HCN.out _ (below_regrown _ _ _))) | (go_at_call 84; exact quiet_s (HDN.out _ (below_regrown _ _ _)))))))
                refine wpQuiet_nil ?_
                intro _ hw'
                obtain ⟨⟨dq, osq⟩, hw''⟩ := hw'
                subst hw''
                have hb3 := below_regrown wA dq osq
                clear hgr
                generalize grow (redrawn wA dq) osq = w3 at hb3 ⊢
                have hz3 := hb3.size
                (try simp only [World.size_alloc, World.size_setCell, World.size_drew, size_drewN', size_grow, size_redrawn] at hz3)
                obtain ⟨hc3, hf3⟩ := bcellB (B := wA.heap.size) hb3 (by first | omega | (simp only [World.size_alloc, World.size_setCell, World.size_drew, size_drewN', size_grow, size_redrawn]; omega))
                go_wp2_with fail
                go_meet
                exact ⟨by rw [HSE.out, HIN.out, hrd, HDI.out]; rfl, hb3⟩
            · have HIN := Lib.hid hin
              have HCN : Hid (∀ W, Below wA.heap.size wA W → Calls Tryz.prog 83 #[.slice A (ruleS x.kind).length cc, .int .i64 a.st] W fun e w' => e = .returned (.bool true) ∧ Below W.heap.size W w') := Lib.hid (fun W hb => by have := contains_int_any (ruleS x.kind) A cc a.st W (hsl.up hb) (by omega); rw [hin] at this; exact this)
              clear hin
              (try rw [hrd] at p1)
              have HDN : Hid (∀ W, Below wA.heap.size wA W → Calls Tryz.prog 84 #[.pointer (some ⟨g, 0, none⟩)] W fun e w' => e = .returned (.bool true) ∧ W = w') := Lib.hid (fun W hb => by have := direct_any g a W (Ac.out.up hb); rw [hdi] at this; exact this)
              have HDI := Lib.hid hdi
              clear hdi
              have hgr := regrown_cells wA (B := wA.heap.size) (by omega)
              refine wp_region_quiet_below (by kernel_rfl) (by kernel_rfl) ?_
              repeat (first | (go_big_quiet_step ((first | (go_at_call 83; exact quiet_b (HCN.out _ (below_regrown _ _ _))) | (go_at_call 84; exact quiet_s (HDN.out _ (below_regrown _ _ _)))))) | (quiet_step ((first | (go_at_call 83; exact quiet_b (HCN.out _ (below_regrown _ _ _))) | (go_at_call 84; exact quiet_s (HDN.out _ (below_regrown _ _ _)))))))
              refine wpQuiet_nil ?_
              intro _ hw'
              obtain ⟨⟨dq, osq⟩, hw''⟩ := hw'
              subst hw''
              have hb3 := below_regrown wA dq osq
              clear hgr
              generalize grow (redrawn wA dq) osq = w3 at hb3 ⊢
              have hz3 := hb3.size
              (try simp only [World.size_alloc, World.size_setCell, World.size_drew, size_drewN', size_grow, size_redrawn] at hz3)
              obtain ⟨hc3, hf3⟩ := bcellB (B := wA.heap.size) hb3 (by first | omega | (simp only [World.size_alloc, World.size_setCell, World.size_drew, size_drewN', size_grow, size_redrawn]; omega))
              go_wp2_with fail
              go_meet
              exact ⟨by rw [HSE.out, HIN.out, hrd, HDI.out]; rfl, hb3⟩
      case rest =>
        obtain ⟨rfl, bd⟩ := hcut
        have B3 := Bc.out.up bd
        have A3 := Ac.out.up bd
        have bwd : Below w.heap.size w wc := below_up bwc bwc.size bd
        have r0 := (bd.cell (p := ⟨w.heap.size, 0, none⟩) lc).trans yc0
        have r1 := (bd.cell (p := ⟨w.heap.size, 1, none⟩) lc).trans yc1
        have r2 := (bd.cell (p := ⟨w.heap.size, 2, none⟩) lc).trans yc2
        have r3 := (bd.cell (p := ⟨w.heap.size, 3, none⟩) lc).trans yc3
        have lw : w.heap.size < wc.heap.size := by have := bd.size; omega
        have lR : bR < wc.heap.size := by have := bd.size; omega
        have p2' := (bd.cell (p := ⟨bR, 2, none⟩) hbR).trans p2
        have HC4 := Lib.hid (deed_free gc gm base V At ct es ev g a x bb wc B3 A3 hgt.1 hgt.2.1 HK.out ((bd.cell (p := ⟨bb, 0, none⟩) hbb).trans hbc) (by have := bd.size; omega))
        have HB3 := Lib.hid B3
        have HA3 := Lib.hid A3
        clear yc0 yc1 yc2 yc3 p0 p1 p2 c9 hsl B3 A3
        cases hst : statedD a x.kind
        · go_wp2_with fail
          go_ret
          refine ⟨g, HO.out, ?_⟩
          rw [hst, if_neg (by simp)]
          exact ⟨rfl, bwd⟩
        · skip
          all_goals
            go_wp2_with fail
            refine HC4.out.mono ?_
            rintro e w4 ⟨hret, ⟨ev4, hbk4, hturn4⟩, hacc4⟩
            subst hret
            go_wp2_with fail
            go_ret
            refine ⟨g, HO.out, ?_⟩
            rw [if_pos hst]
            exact ⟨rfl, ⟨ev4, hbk4, ((Turn.refl [gc, g] base w).up bwd le0).trans hturn4⟩, hacc4⟩
end Go.Proofs.YtmlhoojcdidgkaaGreat
