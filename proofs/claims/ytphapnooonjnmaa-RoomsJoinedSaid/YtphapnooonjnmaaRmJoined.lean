/-
  The law 'RoomsJoined': the walk.
-/
import Derived.Test.YtphapnooonjnmaaRmHead
import Derived.Test.YtphapnooonjnmaaRmUse
namespace Go.Proofs.Ytphapnooonjnmaa
set_option linter.unusedSimpArgs false
set_option linter.unusedVariables false
open Go.RowKit
open Go.Sort (grow size_grow)

set_option maxHeartbeats 4000000
set_option maxRecDepth 100000
theorem joined_no (l : List Room) (A : Option Addr) (c : Nat) (u a : Int) (w : World) (hs : SlRoom w A l) (hi : IdsOk l) (hu : use16 l = false) :
    Calls Try.prog 8 #[.slice A l.length c, .int .u8 u, .int .i64 a] w fun e w' => e = .returned (.bool true) ∧ Below w.heap.size w w' := by
  go_enter Try.func8, Try.ntmps8
  go_wp2_with fail
  refine (head16_any _).mono ?_
  rintro e w1 ⟨rfl, B1⟩
  go_wp2_with fail
  refine (usable16_any l A c _ (hs.up B1) hi).mono ?_
  rintro e w2 ⟨rfl, b2⟩
  rw [hu]
  have B2 := below_up B1 B1.size b2
  go_wp2_with fail
  go_ret
  exact ⟨ret_bool (by simp), B2⟩
theorem joined_nil (A : Option Addr) (c : Nat) (u a : Int) (w : World) (hu : use16 [] = true) :
    Calls Try.prog 8 #[.slice A 0 c, .int .u8 u, .int .i64 a] w fun e w' => e = .returned (.bool true) ∧ Below w.heap.size w w' := by
  have hs : SlRoom w A [] := SlRoom.nil_
  have hi : IdsOk [] := fun r hr => by cases hr
  go_enter Try.func8, Try.ntmps8
  go_wp2_with fail
  refine (head16_any _).mono ?_
  rintro e w1 ⟨rfl, B1⟩
  go_wp2_with fail
  refine (usable16_any [] A c _ (hs.up B1) hi).mono ?_
  rintro e w2 ⟨rfl, b2⟩
  rw [hu]
  have B2 := below_up B1 B1.size b2
  go_wp2_with fail
  go_ret
  exact ⟨ret_bool (by simp), B2⟩
theorem SlRoom.atb {w : World} {b off : Nat} {l : List Room} {k : Nat} (h : SlRoom w (some ⟨b, off, none⟩) l) (hk : k < l.length) :
    b < w.heap.size ∧ ∃ A' c', (∀ j v, (l[k].cs A' c')[j]? = some v → w.cell? ⟨b, off + k * 6 + j, none⟩ = some v) ∧ SlSpn w A' l[k].blk := by
  obtain ⟨b', off', A', c', e, hb, h1, h2⟩ := h.at_ hk
  injection e with e
  injection e with e1 e2 _
  subst e1 e2
  exact ⟨hb, A', c', h1, h2⟩
theorem joined_yes (l : List Room) (A : Option Addr) (c : Nat) (u a : Int) (w : World) (hs : SlRoom w A l) (hi : IdsOk l) (hu : use16 l = true) (hn : 0 < l.length)
    (u0 : 0 ≤ u) (u1 : u ≤ 255) (hroom : l.length ≤ c) (hnone : A = none → c = 0) :
    Calls Try.prog 8 #[.slice A l.length c, .int .u8 u, .int .i64 a] w fun e w' => e = .returned (.bool true) ∧ Below w.heap.size w w' := by
  have hcase : Hid (findS l a = (0, false, 1) ∨ (findS l a = (0, false, 0) ∧ idxR l a = -1) ∨ ∃ j : Nat, ∃ hj : j < l.length, findS l a = ((j : Int), true, 0) ∧ l[j].id = a) := Lib.hid (by
    unfold findS
    rw [(use16_iff.1 hu).2.2, Bool.true_and]
    cases inB a 1 1000000
    · exact .inl rfl
    · refine .inr ?_
      rw [if_pos (by rfl)]
      rcases idxR_cases l a with ⟨h1, _⟩ | ⟨j, hj, h1, h2, _⟩
      · exact .inl ⟨by rw [h1]; rfl, h1⟩
      · exact .inr ⟨j, hj, by rw [h1, show max (0 : Int) (j : Int) = (j : Int) by omega, decide_eq_true (show (0 : Int) ≤ (j : Int) by omega)], h2⟩)
  have hn1 : ((l.length : Int) == 0) = false := by rw [beq_eq_false_iff_ne]; omega
  have hn2 : l.length ≠ 0 := by omega
  obtain ⟨h40, hfew, hv⟩ := use16_iff.1 hu
  have hT := fewR_tame hfew hi
  have hk0 : 0 ≤ u % (l.length : Int) := Int.emod_nonneg _ (by omega)
  have hk1 : u % (l.length : Int) < (l.length : Int) := Int.emod_lt_of_pos _ (by omega)
  obtain ⟨k, hkk⟩ : ∃ k : Nat, u % (l.length : Int) = k := ⟨(u % (l.length : Int)).toNat, by omega⟩
  rw [hkk] at hk0 hk1
  have hk : k < l.length := by omega
  have HT := Lib.hid (And.intro hT hv)
  clear hT
  have hok := (roomsOk_iff.1 hv).2.1 _ (List.getElem_mem hk)
  have hoi := Room.okN_iff.1 (Room.ok_iff.1 hok).1
  have hF : Hid (findS l l[k].id = ((k : Int), true, 0)) := Lib.hid (by
    unfold findS
    rw [hv, inB_iff.2 ⟨hoi.1, hoi.2.1⟩, if_pos (by rfl), idxR_own (roomsOk_iff.1 hv).2.2.1 hk]
    rw [show max (0 : Int) (k : Int) = (k : Int) by omega, decide_eq_true (show (0 : Int) ≤ (k : Int) by omega)])
  have HX := Lib.hid (And.intro hok hoi)
  clear hok hoi hv
  go_enter Try.func8, Try.ntmps8
  go_wp2_with fail
  refine (head16_any _).mono ?_
  rintro e w1 ⟨rfl, B1⟩
  go_wp2_with fail
  refine (usable16_any l A c _ (hs.up B1) hi).mono ?_
  rintro e w2 ⟨rfl, b2⟩
  rw [hu]
  have B2 := below_up B1 B1.size b2
  go_wp2_with fail
  have hs0 := hs
  obtain ⟨b, off, A', c', hAe, hbl, hcell, hsp⟩ := (hs.up B2).at_ hk
  subst hAe
  have hs2 := hs0.up B2
  have q0 := hcell 0 _ rfl
  have q1 := hcell 1 _ rfl
  have q2 := hcell 2 _ rfl
  have q3 := hcell 3 _ rfl
  have q4 := hcell 4 _ rfl
  have q5 := hcell 5 _ rfl
  rw [Nat.add_zero] at q0
  clear hcell hsp
  go_wp2_with fail
  go_simp
  go_wp2_with fail
  refine (find_any l _ c l[k].id _ hs2 (by omega) HT.out.1).mono ?_
  rintro e w3 ⟨rfl, b3⟩
  rw [hF.out]
  have B3 := below_up B2 B2.size b3
  have q03 := (b3.cell (p := ⟨b, _, none⟩) hbl).trans q0
  have q13 := (b3.cell (p := ⟨b, _, none⟩) hbl).trans q1
  have q33 := (b3.cell (p := ⟨b, _, none⟩) hbl).trans q3
  have l3 : b < w3.heap.size := Nat.lt_of_lt_of_le hbl b3.size
  clear q0 q1 q2 q3 q4 q5
  go_wp2_with fail
  refine (find_any l _ c a _ (hs0.up B3) (by omega) HT.out.1).mono ?_
  rintro e w4 ⟨rfl, b4⟩
  have B4 := below_up B3 B3.size b4
  have q04 := (b4.cell (p := ⟨b, _, none⟩) l3).trans q03
  have q14 := (b4.cell (p := ⟨b, _, none⟩) l3).trans q13
  have q34 := (b4.cell (p := ⟨b, _, none⟩) l3).trans q33
  have l4 : b < w4.heap.size := Nat.lt_of_lt_of_le l3 b4.size
  clear q03 q13 q33
  rcases hcase.out with hf | ⟨hf, hix⟩ | ⟨j, hj, hf, hja⟩
  · rw [hf]
    by_cases hj0 : l[k].joins = 0
    · have hjb : (l[k].joins == 0) = true := by rw [hj0]; rfl
      clear hj0
      go_wp2_with fail
      go_ret
      exact ⟨ret_bool (by simp), B4⟩
    have hjb : (l[k].joins == 0) = false := by rw [beq_eq_false_iff_ne]; exact hj0
    obtain ⟨m, hm, hne, hmx, e1, e2, e3⟩ := mate_there HT.out.2 hk hj0
    have hG : findS l l[k].joins = ((m : Int), true, 0) := by
      have ho := Room.okN_iff.1 (Room.ok_iff.1 ((roomsOk_iff.1 HT.out.2).2.1 _ (List.getElem_mem hm))).1
      unfold findS
      rw [HT.out.2, ← e1, inB_iff.2 ⟨ho.1, ho.2.1⟩, if_pos (by rfl), e1, hmx]
      rw [show max (0 : Int) (m : Int) = (m : Int) by omega, decide_eq_true (show (0 : Int) ≤ (m : Int) by omega)]
    have hbad : Hid (roomsOk (l.take k ++ l.drop (k + 1)) = false) := Lib.hid (less_bad HT.out.2 hk hj0)
    have hmk : ((m : Int) == (k : Int)) = false := by rw [beq_eq_false_iff_ne]; omega
    have hm0 : decide ((m : Int) < 0) = false := by rw [decide_eq_false_iff_not]; omega
    have hml : decide ((l.length : Int) ≤ (m : Int)) = false := by rw [decide_eq_false_iff_not]; omega
    have eb3 : (l[m].joins == l[k].id) = true := by rw [e3]; simp
    have eb2 : (l[m].house == l[k].house) = true := by rw [e2]; simp
    clear e1 e2 e3 hj0 hmx
    go_wp2_with fail
    go_simp
    go_wp2_with fail
    refine (find_any l _ c l[k].joins _ (hs0.up B4) (by omega) HT.out.1).mono ?_
    rintro e w7 ⟨rfl, b7⟩
    rw [hG]
    have B7 := below_up B4 (B4).size b7
    have q07 := (b7.cell (p := ⟨b, _, none⟩) l4).trans q04
    have q17 := (b7.cell (p := ⟨b, _, none⟩) l4).trans q14
    have l7 : b < w7.heap.size := Nat.lt_of_lt_of_le l4 b7.size
    clear q04 q14 q34
    obtain ⟨_, Am, cm, hmc, _⟩ := (hs0.up B7).atb hm
    have m1 := hmc 1 _ rfl
    have m3 := hmc 3 _ rfl
    clear hmc
    obtain ⟨L, hLl, hLs, hLp⟩ := (hs0.up B7).toA
    have hLn : L.length = l.length := by rw [← hLl, List.length_map]
    have HL := Lib.hid (And.intro hLl hLp)
    clear hLl hLp
    have hM1 : (L.take k).length = k := by rw [List.length_take]; omega
    have hM2 : (L.drop (k + 1)).length = l.length - (k + 1) := by rw [List.length_drop, hLn]
    have HM1 := Lib.hid hM1
    have HM2 := Lib.hid hM2
    have hLc : L.length ≤ c := by omega
    clear hM1 hM2
    have hp1 : (k : Int) + 1 ≤ (l.length : Int) := by omega
    have hp2 : k + 1 ≤ l.length := by omega
    have hp3 : k + 1 ≤ c := by omega
    have hp4 : k ≤ c := by omega
    have hp5 : (0 : Int) ≤ (k : Int) + 1 := by omega
    have hp6 : ((k : Int) + 1).toNat = k + 1 := by omega
    have hwr : IntKind.i64.wrap ((k : Int) + 1) = (k : Int) + 1 := by rw [IntKind.wrap_i64]; omega
    obtain ⟨A', hA', hsl'⟩ := hLs.cut (k + 1) hLc
    have hnil : OwnL (w7.drew.alloc (.cells #[] 25)) w7.heap.size 25 6 encA (.slice (some ⟨w7.heap.size, 0, none⟩) 0 0) [] := OwnL.of_block (cs := #[]) (g := w7.heap.size) (cap := 0) (heap_alloc_new w7.drew _) (Nat.le_refl _) rfl (by decide) rfl encA_len
    go_wp2_with fail
    go_region_law (first
      | (go_loud (refine step_append_all _ (by rfl) (.tmp 140) (.tmp 143) 22 25 (by rfl) w7.heap.size 6 64 encA elemRoom encA_len encA_one _ [] (by rfl) hnil (some ⟨b, off, none⟩) _ _ (L.take k) (by rw [HM1.out]; rfl) ((hLs.take k).below ((Below.refl _ _).drew.alloc (by simp) _)) (by rw [HM1.out]; simp; omega) (by first | omega | (simp; done) | (simp; omega)) (by first | omega | (simp; done) | (simp; omega)) ?_); intro v8 w8 hown8 hgrow8 hat8; rw [List.nil_append] at hown8; have hb8 : Below w7.heap.size w7 w8 := below_push ((Below.refl _ _).drew.alloc (by simp) _) hnil hgrow8 (by simp); have hz8 := hb8.size)
      | (go_loud (refine step_append_all _ (by rfl) (.tmp 144) (.tmp 148) 22 25 (by rfl) w7.heap.size 6 64 encA elemRoom encA_len encA_one _ (L.take k) (by rfl) hown8 A' _ _ (L.drop (k + 1)) (by rw [HM2.out]; rfl) (hsl'.below hb8) (by rw [HM1.out, HM2.out]; omega) (by omega) hz8 ?_); intro v9 w9 hown9 hgrow9 hat9))
    all_goals
      have hb9 := below_push hb8 hown8 hgrow9 hz8
      have hz9 := hb9.size
      have B9 := below_up B7 B7.size hb9
      obtain ⟨A9, c9, rfl, _, _, hs9⟩ := hown9.sl encA_len
      have hsr9 : SlRoom w9 A9 (l.take k ++ l.drop (k + 1)) := by
        have h := SlRoom.ofA hs9 (fun x hx => (HL.out.2 x (by
          rcases List.mem_append.1 hx with h | h
          · exact List.mem_of_mem_take h
          · exact List.mem_of_mem_drop h)).up hb9)
        rwa [List.map_append, List.map_take, List.map_drop, HL.out.1] at h
      have hle9 : (L.take k ++ L.drop (k + 1)).length = (l.take k ++ l.drop (k + 1)).length := by rw [List.length_append, List.length_append, List.length_take, List.length_take, List.length_drop, List.length_drop, hLn]
      have hT9 : Hid (Tame (l.take k ++ l.drop (k + 1)) ∧ (l.take k ++ l.drop (k + 1)).length ≤ 140737488355328) := Lib.hid ⟨fun x hx => HT.out.1 x (by
        rcases List.mem_append.1 hx with h | h
        · exact List.mem_of_mem_take h
        · exact List.mem_of_mem_drop h), by rw [← hle9, List.length_append, HM1.out, HM2.out]; omega⟩
      rw [hle9]
      have m19 := (hb9.cell (p := ⟨b, _, none⟩) l7).trans m1
      have m39 := (hb9.cell (p := ⟨b, _, none⟩) l7).trans m3
      have q09 := (hb9.cell (p := ⟨b, _, none⟩) l7).trans q07
      have q19 := (hb9.cell (p := ⟨b, _, none⟩) l7).trans q17
      clear hown9 hown8 hnil hgrow9 hle9 hs9 hLs hsl' hnone m1 m3 q07 q17
      generalize l.take k ++ l.drop (k + 1) = R9 at hsr9 hT9 hbad ⊢
      have l9 : b < w9.heap.size := by omega
      go_wp2_with fail
      have hgr := regrown_cells w9 (B := w9.heap.size) (by omega)
      refine wp_region_quiet_below (by kernel_rfl) (by kernel_rfl) ?_
      repeat (quiet_step ((go_at_call 13; exact quiet_b (rmvalid_any R9 A9 c9 _ (hsr9.up (below_regrown _ _ _)) hT9.out.2 hT9.out.1))))
      refine wpQuiet_nil ?_
      intro _ hw'
      obtain ⟨⟨dq, osq⟩, hw''⟩ := hw'
      subst hw''
      have hb10 := below_regrown w9 dq osq
      clear hgr
      generalize grow (redrawn w9 dq) osq = w10 at hb10 ⊢
      have hz10 := hb10.size
      (try simp only [World.size_alloc, World.size_setCell, World.size_drew, size_drewN', size_grow, size_redrawn] at hz10)
      obtain ⟨hc10, hf10⟩ := bcellB (B := w9.heap.size) hb10 (by first | omega | (simp only [World.size_alloc, World.size_setCell, World.size_drew, size_drewN', size_grow, size_redrawn]; omega))
      rw [hbad.out]
      go_wp2_with fail
      go_ret
      exact ⟨ret_bool (by simp), below_up B9 B9.size hb10⟩
  · rw [hf]
    go_wp2_with fail
    refine (rindex_any l _ c a _ (hs0.up B4) (by omega)).mono ?_
    rintro e w5 ⟨rfl, b5⟩
    rw [hix]
    have B5 := below_up B4 B4.size b5
    have q05 := (b5.cell (p := ⟨b, _, none⟩) l4).trans q04
    have q15 := (b5.cell (p := ⟨b, _, none⟩) l4).trans q14
    have q35 := (b5.cell (p := ⟨b, _, none⟩) l4).trans q34
    have l5 : b < w5.heap.size := Nat.lt_of_lt_of_le l4 b5.size
    clear q04 q14 q34
    by_cases hj0 : l[k].joins = 0
    · have hjb : (l[k].joins == 0) = true := by rw [hj0]; rfl
      clear hj0
      go_wp2_with fail
      go_ret
      exact ⟨ret_bool (by simp), B5⟩
    have hjb : (l[k].joins == 0) = false := by rw [beq_eq_false_iff_ne]; exact hj0
    obtain ⟨m, hm, hne, hmx, e1, e2, e3⟩ := mate_there HT.out.2 hk hj0
    have hG : findS l l[k].joins = ((m : Int), true, 0) := by
      have ho := Room.okN_iff.1 (Room.ok_iff.1 ((roomsOk_iff.1 HT.out.2).2.1 _ (List.getElem_mem hm))).1
      unfold findS
      rw [HT.out.2, ← e1, inB_iff.2 ⟨ho.1, ho.2.1⟩, if_pos (by rfl), e1, hmx]
      rw [show max (0 : Int) (m : Int) = (m : Int) by omega, decide_eq_true (show (0 : Int) ≤ (m : Int) by omega)]
    have hbad : Hid (roomsOk (l.take k ++ l.drop (k + 1)) = false) := Lib.hid (less_bad HT.out.2 hk hj0)
    have hmk : ((m : Int) == (k : Int)) = false := by rw [beq_eq_false_iff_ne]; omega
    have hm0 : decide ((m : Int) < 0) = false := by rw [decide_eq_false_iff_not]; omega
    have hml : decide ((l.length : Int) ≤ (m : Int)) = false := by rw [decide_eq_false_iff_not]; omega
    have eb3 : (l[m].joins == l[k].id) = true := by rw [e3]; simp
    have eb2 : (l[m].house == l[k].house) = true := by rw [e2]; simp
    clear e1 e2 e3 hj0 hmx
    go_wp2_with fail
    go_simp
    go_wp2_with fail
    refine (find_any l _ c l[k].joins _ (hs0.up B5) (by omega) HT.out.1).mono ?_
    rintro e w7 ⟨rfl, b7⟩
    rw [hG]
    have B7 := below_up B5 (B5).size b7
    have q07 := (b7.cell (p := ⟨b, _, none⟩) l5).trans q05
    have q17 := (b7.cell (p := ⟨b, _, none⟩) l5).trans q15
    have l7 : b < w7.heap.size := Nat.lt_of_lt_of_le l5 b7.size
    clear q05 q15 q35
    obtain ⟨_, Am, cm, hmc, _⟩ := (hs0.up B7).atb hm
    have m1 := hmc 1 _ rfl
    have m3 := hmc 3 _ rfl
    clear hmc
    obtain ⟨L, hLl, hLs, hLp⟩ := (hs0.up B7).toA
    have hLn : L.length = l.length := by rw [← hLl, List.length_map]
    have HL := Lib.hid (And.intro hLl hLp)
    clear hLl hLp
    have hM1 : (L.take k).length = k := by rw [List.length_take]; omega
    have hM2 : (L.drop (k + 1)).length = l.length - (k + 1) := by rw [List.length_drop, hLn]
    have HM1 := Lib.hid hM1
    have HM2 := Lib.hid hM2
    have hLc : L.length ≤ c := by omega
    clear hM1 hM2
    have hp1 : (k : Int) + 1 ≤ (l.length : Int) := by omega
    have hp2 : k + 1 ≤ l.length := by omega
    have hp3 : k + 1 ≤ c := by omega
    have hp4 : k ≤ c := by omega
    have hp5 : (0 : Int) ≤ (k : Int) + 1 := by omega
    have hp6 : ((k : Int) + 1).toNat = k + 1 := by omega
    have hwr : IntKind.i64.wrap ((k : Int) + 1) = (k : Int) + 1 := by rw [IntKind.wrap_i64]; omega
    obtain ⟨A', hA', hsl'⟩ := hLs.cut (k + 1) hLc
    have hnil : OwnL (w7.drew.alloc (.cells #[] 25)) w7.heap.size 25 6 encA (.slice (some ⟨w7.heap.size, 0, none⟩) 0 0) [] := OwnL.of_block (cs := #[]) (g := w7.heap.size) (cap := 0) (heap_alloc_new w7.drew _) (Nat.le_refl _) rfl (by decide) rfl encA_len
    go_wp2_with fail
    go_region_law (first
      | (go_loud (refine step_append_all _ (by rfl) (.tmp 140) (.tmp 143) 22 25 (by rfl) w7.heap.size 6 64 encA elemRoom encA_len encA_one _ [] (by rfl) hnil (some ⟨b, off, none⟩) _ _ (L.take k) (by rw [HM1.out]; rfl) ((hLs.take k).below ((Below.refl _ _).drew.alloc (by simp) _)) (by rw [HM1.out]; simp; omega) (by first | omega | (simp; done) | (simp; omega)) (by first | omega | (simp; done) | (simp; omega)) ?_); intro v8 w8 hown8 hgrow8 hat8; rw [List.nil_append] at hown8; have hb8 : Below w7.heap.size w7 w8 := below_push ((Below.refl _ _).drew.alloc (by simp) _) hnil hgrow8 (by simp); have hz8 := hb8.size)
      | (go_loud (refine step_append_all _ (by rfl) (.tmp 144) (.tmp 148) 22 25 (by rfl) w7.heap.size 6 64 encA elemRoom encA_len encA_one _ (L.take k) (by rfl) hown8 A' _ _ (L.drop (k + 1)) (by rw [HM2.out]; rfl) (hsl'.below hb8) (by rw [HM1.out, HM2.out]; omega) (by omega) hz8 ?_); intro v9 w9 hown9 hgrow9 hat9))
    all_goals
      have hb9 := below_push hb8 hown8 hgrow9 hz8
      have hz9 := hb9.size
      have B9 := below_up B7 B7.size hb9
      obtain ⟨A9, c9, rfl, _, _, hs9⟩ := hown9.sl encA_len
      have hsr9 : SlRoom w9 A9 (l.take k ++ l.drop (k + 1)) := by
        have h := SlRoom.ofA hs9 (fun x hx => (HL.out.2 x (by
          rcases List.mem_append.1 hx with h | h
          · exact List.mem_of_mem_take h
          · exact List.mem_of_mem_drop h)).up hb9)
        rwa [List.map_append, List.map_take, List.map_drop, HL.out.1] at h
      have hle9 : (L.take k ++ L.drop (k + 1)).length = (l.take k ++ l.drop (k + 1)).length := by rw [List.length_append, List.length_append, List.length_take, List.length_take, List.length_drop, List.length_drop, hLn]
      have hT9 : Hid (Tame (l.take k ++ l.drop (k + 1)) ∧ (l.take k ++ l.drop (k + 1)).length ≤ 140737488355328) := Lib.hid ⟨fun x hx => HT.out.1 x (by
        rcases List.mem_append.1 hx with h | h
        · exact List.mem_of_mem_take h
        · exact List.mem_of_mem_drop h), by rw [← hle9, List.length_append, HM1.out, HM2.out]; omega⟩
      rw [hle9]
      have m19 := (hb9.cell (p := ⟨b, _, none⟩) l7).trans m1
      have m39 := (hb9.cell (p := ⟨b, _, none⟩) l7).trans m3
      have q09 := (hb9.cell (p := ⟨b, _, none⟩) l7).trans q07
      have q19 := (hb9.cell (p := ⟨b, _, none⟩) l7).trans q17
      clear hown9 hown8 hnil hgrow9 hle9 hs9 hLs hsl' hnone m1 m3 q07 q17
      generalize l.take k ++ l.drop (k + 1) = R9 at hsr9 hT9 hbad ⊢
      have l9 : b < w9.heap.size := by omega
      go_wp2_with fail
      have hgr := regrown_cells w9 (B := w9.heap.size) (by omega)
      refine wp_region_quiet_below (by kernel_rfl) (by kernel_rfl) ?_
      repeat (quiet_step ((go_at_call 13; exact quiet_b (rmvalid_any R9 A9 c9 _ (hsr9.up (below_regrown _ _ _)) hT9.out.2 hT9.out.1))))
      refine wpQuiet_nil ?_
      intro _ hw'
      obtain ⟨⟨dq, osq⟩, hw''⟩ := hw'
      subst hw''
      have hb10 := below_regrown w9 dq osq
      clear hgr
      generalize grow (redrawn w9 dq) osq = w10 at hb10 ⊢
      have hz10 := hb10.size
      (try simp only [World.size_alloc, World.size_setCell, World.size_drew, size_drewN', size_grow, size_redrawn] at hz10)
      obtain ⟨hc10, hf10⟩ := bcellB (B := w9.heap.size) hb10 (by first | omega | (simp only [World.size_alloc, World.size_setCell, World.size_drew, size_drewN', size_grow, size_redrawn]; omega))
      rw [hbad.out]
      go_wp2_with fail
      go_ret
      exact ⟨ret_bool (by simp), below_up B9 B9.size hb10⟩
  · rw [hf]
    obtain ⟨_, Aj, cj, hjc, _⟩ := (hs0.up B4).atb hj
    have j0 := hjc 0 _ rfl
    rw [Nat.add_zero, hja] at j0
    clear hjc
    have hx1 : (j : Int) < (l.length : Int) := by omega
    have hx2 : decide ((j : Int) < 0) = false := by rw [decide_eq_false_iff_not]; omega
    have hx3 : decide ((l.length : Int) ≤ (j : Int)) = false := by rw [decide_eq_false_iff_not]; omega
    have hx4 : (0 : Int) ≤ (j : Int) := by omega
    by_cases hj0 : l[k].joins = 0
    · have hjb : (l[k].joins == 0) = true := by rw [hj0]; rfl
      clear hj0
      go_wp2_with fail
      go_ret
      exact ⟨ret_bool (by simp), B4⟩
    have hjb : (l[k].joins == 0) = false := by rw [beq_eq_false_iff_ne]; exact hj0
    obtain ⟨m, hm, hne, hmx, e1, e2, e3⟩ := mate_there HT.out.2 hk hj0
    have hG : findS l l[k].joins = ((m : Int), true, 0) := by
      have ho := Room.okN_iff.1 (Room.ok_iff.1 ((roomsOk_iff.1 HT.out.2).2.1 _ (List.getElem_mem hm))).1
      unfold findS
      rw [HT.out.2, ← e1, inB_iff.2 ⟨ho.1, ho.2.1⟩, if_pos (by rfl), e1, hmx]
      rw [show max (0 : Int) (m : Int) = (m : Int) by omega, decide_eq_true (show (0 : Int) ≤ (m : Int) by omega)]
    have hbad : Hid (roomsOk (l.take k ++ l.drop (k + 1)) = false) := Lib.hid (less_bad HT.out.2 hk hj0)
    have hmk : ((m : Int) == (k : Int)) = false := by rw [beq_eq_false_iff_ne]; omega
    have hm0 : decide ((m : Int) < 0) = false := by rw [decide_eq_false_iff_not]; omega
    have hml : decide ((l.length : Int) ≤ (m : Int)) = false := by rw [decide_eq_false_iff_not]; omega
    have eb3 : (l[m].joins == l[k].id) = true := by rw [e3]; simp
    have eb2 : (l[m].house == l[k].house) = true := by rw [e2]; simp
    clear e1 e2 e3 hj0 hmx
    go_wp2_with fail
    go_simp
    go_wp2_with fail
    refine (find_any l _ c l[k].joins _ (hs0.up B4) (by omega) HT.out.1).mono ?_
    rintro e w7 ⟨rfl, b7⟩
    rw [hG]
    have B7 := below_up B4 (B4).size b7
    have q07 := (b7.cell (p := ⟨b, _, none⟩) l4).trans q04
    have q17 := (b7.cell (p := ⟨b, _, none⟩) l4).trans q14
    have l7 : b < w7.heap.size := Nat.lt_of_lt_of_le l4 b7.size
    clear q04 q14 q34
    obtain ⟨_, Am, cm, hmc, _⟩ := (hs0.up B7).atb hm
    have m1 := hmc 1 _ rfl
    have m3 := hmc 3 _ rfl
    clear hmc
    obtain ⟨L, hLl, hLs, hLp⟩ := (hs0.up B7).toA
    have hLn : L.length = l.length := by rw [← hLl, List.length_map]
    have HL := Lib.hid (And.intro hLl hLp)
    clear hLl hLp
    have hM1 : (L.take k).length = k := by rw [List.length_take]; omega
    have hM2 : (L.drop (k + 1)).length = l.length - (k + 1) := by rw [List.length_drop, hLn]
    have HM1 := Lib.hid hM1
    have HM2 := Lib.hid hM2
    have hLc : L.length ≤ c := by omega
    clear hM1 hM2
    have hp1 : (k : Int) + 1 ≤ (l.length : Int) := by omega
    have hp2 : k + 1 ≤ l.length := by omega
    have hp3 : k + 1 ≤ c := by omega
    have hp4 : k ≤ c := by omega
    have hp5 : (0 : Int) ≤ (k : Int) + 1 := by omega
    have hp6 : ((k : Int) + 1).toNat = k + 1 := by omega
    have hwr : IntKind.i64.wrap ((k : Int) + 1) = (k : Int) + 1 := by rw [IntKind.wrap_i64]; omega
    obtain ⟨A', hA', hsl'⟩ := hLs.cut (k + 1) hLc
    have hnil : OwnL (w7.drew.alloc (.cells #[] 25)) w7.heap.size 25 6 encA (.slice (some ⟨w7.heap.size, 0, none⟩) 0 0) [] := OwnL.of_block (cs := #[]) (g := w7.heap.size) (cap := 0) (heap_alloc_new w7.drew _) (Nat.le_refl _) rfl (by decide) rfl encA_len
    go_wp2_with fail
    go_region_law (first
      | (go_loud (refine step_append_all _ (by rfl) (.tmp 140) (.tmp 143) 22 25 (by rfl) w7.heap.size 6 64 encA elemRoom encA_len encA_one _ [] (by rfl) hnil (some ⟨b, off, none⟩) _ _ (L.take k) (by rw [HM1.out]; rfl) ((hLs.take k).below ((Below.refl _ _).drew.alloc (by simp) _)) (by rw [HM1.out]; simp; omega) (by first | omega | (simp; done) | (simp; omega)) (by first | omega | (simp; done) | (simp; omega)) ?_); intro v8 w8 hown8 hgrow8 hat8; rw [List.nil_append] at hown8; have hb8 : Below w7.heap.size w7 w8 := below_push ((Below.refl _ _).drew.alloc (by simp) _) hnil hgrow8 (by simp); have hz8 := hb8.size)
      | (go_loud (refine step_append_all _ (by rfl) (.tmp 144) (.tmp 148) 22 25 (by rfl) w7.heap.size 6 64 encA elemRoom encA_len encA_one _ (L.take k) (by rfl) hown8 A' _ _ (L.drop (k + 1)) (by rw [HM2.out]; rfl) (hsl'.below hb8) (by rw [HM1.out, HM2.out]; omega) (by omega) hz8 ?_); intro v9 w9 hown9 hgrow9 hat9))
    all_goals
      have hb9 := below_push hb8 hown8 hgrow9 hz8
      have hz9 := hb9.size
      have B9 := below_up B7 B7.size hb9
      obtain ⟨A9, c9, rfl, _, _, hs9⟩ := hown9.sl encA_len
      have hsr9 : SlRoom w9 A9 (l.take k ++ l.drop (k + 1)) := by
        have h := SlRoom.ofA hs9 (fun x hx => (HL.out.2 x (by
          rcases List.mem_append.1 hx with h | h
          · exact List.mem_of_mem_take h
          · exact List.mem_of_mem_drop h)).up hb9)
        rwa [List.map_append, List.map_take, List.map_drop, HL.out.1] at h
      have hle9 : (L.take k ++ L.drop (k + 1)).length = (l.take k ++ l.drop (k + 1)).length := by rw [List.length_append, List.length_append, List.length_take, List.length_take, List.length_drop, List.length_drop, hLn]
      have hT9 : Hid (Tame (l.take k ++ l.drop (k + 1)) ∧ (l.take k ++ l.drop (k + 1)).length ≤ 140737488355328) := Lib.hid ⟨fun x hx => HT.out.1 x (by
        rcases List.mem_append.1 hx with h | h
        · exact List.mem_of_mem_take h
        · exact List.mem_of_mem_drop h), by rw [← hle9, List.length_append, HM1.out, HM2.out]; omega⟩
      rw [hle9]
      have m19 := (hb9.cell (p := ⟨b, _, none⟩) l7).trans m1
      have m39 := (hb9.cell (p := ⟨b, _, none⟩) l7).trans m3
      have q09 := (hb9.cell (p := ⟨b, _, none⟩) l7).trans q07
      have q19 := (hb9.cell (p := ⟨b, _, none⟩) l7).trans q17
      clear hown9 hown8 hnil hgrow9 hle9 hs9 hLs hsl' hnone m1 m3 q07 q17
      generalize l.take k ++ l.drop (k + 1) = R9 at hsr9 hT9 hbad ⊢
      have l9 : b < w9.heap.size := by omega
      go_wp2_with fail
      have hgr := regrown_cells w9 (B := w9.heap.size) (by omega)
      refine wp_region_quiet_below (by kernel_rfl) (by kernel_rfl) ?_
      repeat (quiet_step ((go_at_call 13; exact quiet_b (rmvalid_any R9 A9 c9 _ (hsr9.up (below_regrown _ _ _)) hT9.out.2 hT9.out.1))))
      refine wpQuiet_nil ?_
      intro _ hw'
      obtain ⟨⟨dq, osq⟩, hw''⟩ := hw'
      subst hw''
      have hb10 := below_regrown w9 dq osq
      clear hgr
      generalize grow (redrawn w9 dq) osq = w10 at hb10 ⊢
      have hz10 := hb10.size
      (try simp only [World.size_alloc, World.size_setCell, World.size_drew, size_drewN', size_grow, size_redrawn] at hz10)
      obtain ⟨hc10, hf10⟩ := bcellB (B := w9.heap.size) hb10 (by first | omega | (simp only [World.size_alloc, World.size_setCell, World.size_drew, size_drewN', size_grow, size_redrawn]; omega))
      rw [hbad.out]
      go_wp2_with fail
      go_ret
      exact ⟨ret_bool (by simp), below_up B9 B9.size hb10⟩
theorem law_rmjoined (l : List Room) (A : Option Addr) (c : Nat) (u a : Int) (w : World) (hs : SlRoom w A l) (hi : IdsOk l)
    (u0 : 0 ≤ u) (u1 : u ≤ 255) (hroom : l.length ≤ c) (hnone : A = none → c = 0) :
    Calls Try.prog 8 #[.slice A l.length c, .int .u8 u, .int .i64 a] w fun e w' => e = .returned (.bool true) ∧ Below w.heap.size w w' := by
  cases hu : use16 l
  · exact joined_no l A c u a w hs hi hu
  rcases Nat.eq_zero_or_pos l.length with hn | hn
  · obtain rfl := List.eq_nil_of_length_eq_zero hn
    exact joined_nil A c u a w hu
  · exact joined_yes l A c u a w hs hi hu hn u0 u1 hroom hnone
end Go.Proofs.Ytphapnooonjnmaa
