/-
  Package rooms and its reference: whether a list consists of rooms.
-/
import Derived.Test.YtphapnooonjnmaaRmW1
import Derived.Test.YtphapnooonjnmaaMSum
namespace Go.Proofs.Ytphapnooonjnmaa
set_option linter.unusedSimpArgs false
set_option linter.unusedVariables false
open Go.RowKit Go.Maps
open Go.Sort (grow size_grow)

set_option maxHeartbeats 4000000
set_option maxRecDepth 100000
/-- A room in a map is read by its house and its mate. -/
abbrev vR (h j : Int) : DM := .agg [.lit (.int .i64 h), .lit (.int .i64 j)]
def rdRoom : Value → Option (DM × List MemPlace)
  | .agg ⟨[.int .i64 _, .int .i64 h, .int .i64 _, .int .i64 j, .bool _, .slice _ _ _]⟩ => some (vR h j, [])
  | _ => none
theorem rdRoom_inv {v : Value} {h j : Int} {ps : List MemPlace} (e : rdRoom v = some (vR h j, ps)) : ∃ (i k : Int) (b : Bool) (A : Option Addr) (n c : Nat), v = .agg #[.int .i64 i, .int .i64 h, .int .i64 k, .int .i64 j, .bool b, .slice A n c] := by
  unfold rdRoom at e
  split at e
  · rename_i i h' k j' b A n c
    injection e with e
    injection e with e _
    injection e with e
    injection e with e1 e2
    injection e1 with e1
    injection e1 with _ e1
    injection e2 with e2 _
    injection e2 with e2
    injection e2 with _ e2
    subst e1 e2
    exact ⟨i, k, b, A, n, c, rfl⟩
  · cases e
theorem rdRoom_v (r : Room) (A : Option Addr) (c : Nat) : rdRoom (r.v A c) = some (vR r.house r.joins, []) := rfl
theorem keyedI' : Keyed Try.prog 3 := int_keyed Try.underlying3
abbrev zRoom : Value := .agg #[.int .i64 0, .int .i64 0, .int .i64 0, .int .i64 0, .bool false, .slice none 0 0]
theorem zero_room (w : World) : (zeroValue 25).run Try.prog w = .ok zRoom w := by kernel_rfl
abbrev OwnM (w : World) (blk n : Nat) (D : DM) : Prop := w.ownsMap Try.prog 3 rdRoom blk n D
def lookR (l : List Room) (a : Int) : DM := match findR l a with | some k => vR k.house k.joins | none => vR 0 0
structure MapOf (D : DM) (l : List Room) : Prop where
  tidy : Tidy D
  at_ : ∀ a, D.atKey (kI a) (vR 0 0) = lookR l a
  has : ∀ a, Maps.has D (kI a) = decide (a ∈ idsR l)
theorem mapOf_empty : MapOf (.map []) [] := ⟨tidy_empty, fun a => rfl, fun a => by simp [idsR]; rfl⟩
theorem findR_snoc {l : List Room} {r : Room} (a : Int) (h : r.id ∉ idsR l) : findR (l ++ [r]) a = if a = r.id then some r else findR l a := by
  unfold findR
  rw [List.find?_append]
  by_cases e : a = r.id
  · rw [if_pos e]
    have h0 : l.find? (isId a) = none := by
      rw [List.find?_eq_none]
      intro x hx
      simp only [isId, decide_eq_true_eq]
      exact fun e' => h (List.mem_map.2 ⟨x, hx, e'.trans e⟩)
    have h1 : isId a r = true := by unfold isId; rw [decide_eq_true_eq]; exact e.symm
    rw [h0, List.find?_cons, h1]
    rfl
  · rw [if_neg e]
    have h1 : isId a r = false := by unfold isId; rw [decide_eq_false_iff_not]; exact fun e' => e e'.symm
    rw [List.find?_cons, h1]
    simp
theorem MapOf.put {D : DM} {l : List Room} {r : Room} (h : MapOf D l) (hr : r.id ∉ idsR l) : MapOf (D.put (kI r.id) (vR r.house r.joins)) (l ++ [r]) := by
  refine ⟨h.tidy.put (kI_key _) _, fun b => ?_, fun b => ?_⟩
  · unfold lookR
    rw [findR_snoc b hr]
    by_cases e : b = r.id
    · subst e
      rw [atKey_put_same h.tidy.isMap (kI_key _), if_pos rfl]
    · rw [atKey_put_other (kI_ne e), if_neg e, h.at_]
      rfl
  · unfold idsR
    rw [List.map_append]
    by_cases e : b = r.id
    · subst e
      rw [has_put_same h.tidy.isMap (kI_key _)]
      simp
    · rw [has_put_other (kI_ne e), h.has]
      simp [idsR, e]
theorem mate_look {l : List Room} {r : Room} (h1 : 1 ≤ r.id) : mateOk l r = match lookR l r.joins with | .agg [.lit (.int .i64 h), .lit (.int .i64 j)] => decide (h = r.house ∧ j = r.id) | _ => false := by
  unfold mateOk lookR
  cases findR l r.joins with
  | none =>
    simp only
    rw [eq_comm, decide_eq_false_iff_not]
    omega
  | some k => rfl
theorem look_form (l : List Room) (a : Int) : ∃ h j, lookR l a = vR h j := by
  unfold lookR
  cases findR l a with
  | none => exact ⟨_, _, rfl⟩
  | some k => exact ⟨_, _, rfl⟩
abbrev roomCells (r : Room) (A : Option Addr) (c : Nat) : Array Value := #[.int .i64 r.id, .int .i64 r.house, .int .i64 r.kind, .int .i64 r.joins, .bool r.acc, .slice A r.blk.length c]
theorem rmvalid_any (l : List Room) (A : Option Addr) (c : Nat) (w : World) (hs : SlRoom w A l) (hl : l.length ≤ 140737488355328) (hT : Tame l) :
    Calls Try.prog 13 #[.slice A l.length c] w fun e w' => e = .returned (.bool (roomsOk l)) ∧ Below w.heap.size w w' := by
  by_cases h4 : l.length ≤ 400
  case neg =>
    have h4' : decide ((400 : Int) < (l.length : Int)) = true := by simp; omega
    have HR := Lib.hid (roomsOk_long h4)
    go_enter Try.func13, Try.ntmps13
    go_wp2_with fail
    go_ret
    exact ⟨ret_bool (by rw [HR.out]), Below.refl _ _⟩
  have h4' : decide ((400 : Int) < (l.length : Int)) = false := by simp; omega
  have HT := Lib.hid hT
  go_enter Try.func13, Try.ntmps13
  have hmm := @run_makeMap Try.prog
  have hown0 : OwnM (w.alloc (.map #[] 0)) w.heap.size 0 (.map []) := World.ownsMap_made w Try.prog 3 rdRoom
  have hb0 : Below w.heap.size w (w.alloc (.map #[] 0)) := (Below.refl _ _).alloc (Nat.le_refl _) _
  go_wp2_with fail
  go_loopw [17] (fun i wr => ∃ (m : Nat) (D : DM), m ≤ l.length ∧ i = .int .i64 m ∧ OwnM wr w.heap.size m D ∧ Hid (MapOf D (l.take m) ∧ (∀ x ∈ l.take m, x.ok = true) ∧ (idsR (l.take m)).Nodup) ∧ Below w.heap.size w wr) (fun i _ => l.length - (intOf i).toNat)
  case atStart => exact ⟨0, .map [], by omega, rfl, hown0, Lib.hid ⟨mapOf_empty, by simp, by simp [idsR]⟩, hb0⟩
  case round =>
    obtain ⟨m, D, hm, rfl, hown, hS, hbw⟩ := hrel
    have hbz := hbw.size
    have hob := hown.lt
    by_cases hlt : m < l.length
    · obtain ⟨b, off, A', c', rfl, hbl, hcell, hsp⟩ := (hs.up hbw).at_ hlt
      have q0 := hcell 0 _ rfl
      have q1 := hcell 1 _ rfl
      have q2 := hcell 2 _ rfl
      have q3 := hcell 3 _ rfl
      have q4 := hcell 4 _ rfl
      have q5 := hcell 5 _ rfl
      rw [Nat.add_zero] at q0
      clear hcell
      have hx1 : (m : Int) < (l.length : Int) := by omega
      have hx4 : (0 : Int) ≤ (m : Int) := by omega
      have hown1 := hown.alloc (.cells (roomCells l[m] A' c') 25)
      have hidb := HT.out.id_ hlt
      have hkey : keyOf Try.prog 3 (.int .i64 l[m].id) = some (.int .i64 l[m].id) := keyOf_int_mk Try.underlying3 (WalkArith.wf_i64 hidb)
      obtain ⟨v, ps, hrun, hv⟩ := hown1.look_ok (t := 53) keyedI' Try.underlying53 (zero_room _) (zd := vR 0 0) (zp := []) rfl hkey
      rw [hS.out.1.at_] at hv
      obtain ⟨h0, j0, hlk⟩ := look_form (l.take m) l[m].id
      rw [hlk] at hv
      obtain ⟨x1, x2, x3, x4, x5, x6, rfl⟩ := rdRoom_inv hv
      clear hv hlk
      rw [hS.out.1.has] at hrun
      by_cases hin : l[m].id ∈ idsR (l.take m)
      · have HR := Lib.hid (roomsOk_twice hlt hin)
        rw [decide_eq_true hin] at hrun
        clear hin
        go_wp2_with fail
        go_ret
        refine ⟨ret_bool (by rw [HR.out]), ?_⟩
        repeat' (first
          | (with_reducible exact Below.refl _ _)
          | (with_reducible assumption)
          | (with_reducible refine below_drewN ?_ _)
          | (with_reducible refine Below.drew ?_)
          | (with_reducible refine below_regrown_up _ _ ?_ ?_)
          | (with_reducible refine Below.alloc ?_ ?_ _)
          | (with_reducible refine Below.setCell ?_ ?_ _)
          | (with_reducible refine below_up ?_ ?_ (by assumption))
          | (with_reducible exact Nat.le_refl _)
          | omega
          | (simp; done)
          | (simp; omega))
      · have HIN := Lib.hid hin
        rw [decide_eq_false hin] at hrun
        clear hin
        cases hok : l[m].ok
        · have HR := Lib.hid (roomsOk_bad hlt hok)
          go_wp2_with fail
          refine (formed_any l[m] A' c' _ (hsp.up (by repeat' (first | (with_reducible exact Below.refl _ _) | (with_reducible assumption) | (with_reducible refine below_drewN ?_ _) | (with_reducible refine Below.drew ?_) | (with_reducible refine below_regrown_up _ _ ?_ ?_) | (with_reducible refine Below.alloc ?_ ?_ _) | (with_reducible refine Below.setCell ?_ ?_ _) | (with_reducible refine below_up ?_ ?_ (by assumption)) | (with_reducible exact Nat.le_refl _) | omega | (simp; done) | (simp; omega)))) (HT.out.at_ hlt)).mono ?_
          rintro e w1 ⟨rfl, hb1⟩; have hz1 := hb1.size; (try simp only [World.size_alloc, World.size_setCell, World.size_drew, size_drewN', size_grow, size_redrawn] at hz1); obtain ⟨hc1, hf1⟩ := bcellB (B := wr.heap.size) hb1 (by first | omega | (simp only [World.size_alloc, World.size_setCell, World.size_drew, size_drewN', size_grow, size_redrawn]; omega))
          rw [hok]
          go_wp2_with fail
          go_ret
          refine ⟨ret_bool (by rw [HR.out]), ?_⟩
          repeat' (first
            | (with_reducible exact Below.refl _ _)
            | (with_reducible assumption)
            | (with_reducible refine below_drewN ?_ _)
            | (with_reducible refine Below.drew ?_)
            | (with_reducible refine below_regrown_up _ _ ?_ ?_)
            | (with_reducible refine Below.alloc ?_ ?_ _)
            | (with_reducible refine Below.setCell ?_ ?_ _)
            | (with_reducible refine below_up ?_ ?_ (by assumption))
            | (with_reducible exact Nat.le_refl _)
            | omega
            | (simp; done)
            | (simp; omega))
        · go_wp2_with fail
          refine (formed_any l[m] A' c' _ (hsp.up (by repeat' (first | (with_reducible exact Below.refl _ _) | (with_reducible assumption) | (with_reducible refine below_drewN ?_ _) | (with_reducible refine Below.drew ?_) | (with_reducible refine below_regrown_up _ _ ?_ ?_) | (with_reducible refine Below.alloc ?_ ?_ _) | (with_reducible refine Below.setCell ?_ ?_ _) | (with_reducible refine below_up ?_ ?_ (by assumption)) | (with_reducible exact Nat.le_refl _) | omega | (simp; done) | (simp; omega)))) (HT.out.at_ hlt)).mono ?_
          rintro e w1 ⟨rfl, hb1⟩; have hz1 := hb1.size; (try simp only [World.size_alloc, World.size_setCell, World.size_drew, size_drewN', size_grow, size_redrawn] at hz1); obtain ⟨hc1, hf1⟩ := bcellB (B := wr.heap.size + 1) hb1 (by first | omega | (simp only [World.size_alloc, World.size_setCell, World.size_drew, size_drewN', size_grow, size_redrawn]; omega))
          rw [hok]
          have hown2 : OwnM w1 w.heap.size m D := (hown1.alloc _).kept (grownBy_below hb1 none) (by simp)
          have hbw1 : Below w.heap.size w w1 := by
            repeat' (first
              | (with_reducible exact Below.refl _ _)
              | (with_reducible assumption)
              | (with_reducible refine below_drewN ?_ _)
              | (with_reducible refine Below.drew ?_)
              | (with_reducible refine below_regrown_up _ _ ?_ ?_)
              | (with_reducible refine Below.alloc ?_ ?_ _)
              | (with_reducible refine Below.setCell ?_ ?_ _)
              | (with_reducible refine below_up ?_ ?_ (by assumption))
              | (with_reducible exact Nat.le_refl _)
              | omega
              | (simp; done)
              | (simp; omega))
          obtain ⟨w2, hrun2, o2, g2⟩ := hown2.update (t := 53) keyedI' Try.underlying53 (by unfold maxLen; omega) (val := l[m].v A' c') hkey (rdRoom_v l[m] A' c')
          have hbw2 : Below w.heap.size w w2 := hbw1.grown g2 (by omega) (fun k e => by injection e with e; omega)
          clear hrun
          go_wp2_with fail
          go_roundw
          case rel =>
            refine ⟨m + 1, D.put (kI l[m].id) (vR l[m].house l[m].joins), by omega, by go_num, o2, Lib.hid ?_, hbw2⟩
            obtain ⟨s1, s2, s3⟩ := hS.out
            rw [List.take_succ_eq_append_getElem hlt]
            refine ⟨s1.put HIN.out, fun x hx => ?_, ?_⟩
            · rcases List.mem_append.1 hx with hx | hx
              · exact s2 x hx
              · obtain rfl : x = l[m] := by simpa using hx
                exact hok
            · have := ids_take hlt
              rw [List.take_succ_eq_append_getElem hlt] at this
              rw [this]
              exact nodupI_snoc s3 HIN.out
          case measure => simp [intOf]; omega
    · obtain rfl : m = l.length := by omega
      rw [List.take_of_length_le (Nat.le_refl _)] at hS
      have HS := Lib.hid hS
      clear hS
      go_wp2_with fail
      go_loopw [41] (fun i wq => ∃ (n : Nat), n ≤ l.length ∧ i = .int .i64 n ∧ OwnM wq w.heap.size l.length D ∧ Hid (∀ j (h : j < l.length), j < n → (decide (l[j].joins = 0) || mateOk l l[j]) = true) ∧ Below w.heap.size w wq) (fun i _ => l.length - (intOf i).toNat)
      case atStart => exact ⟨0, by omega, rfl, hown, Lib.hid (fun j _ h => absurd h (by omega)), hbw⟩
      case round =>
        obtain ⟨n, hn, rfl, hownq, hP, hbq⟩ := hrel
        have hbqz := hbq.size
        have hobq := hownq.lt
        by_cases hlt : n < l.length
        · obtain ⟨b, off, A', c', rfl, hbl, hcell, hsp⟩ := (hs.up hbq).at_ hlt
          have q0 := hcell 0 _ rfl
          have q1 := hcell 1 _ rfl
          have q2 := hcell 2 _ rfl
          have q3 := hcell 3 _ rfl
          have q4 := hcell 4 _ rfl
          have q5 := hcell 5 _ rfl
          rw [Nat.add_zero] at q0
          clear hcell
          have hx1 : (n : Int) < (l.length : Int) := by omega
          have hx4 : (0 : Int) ≤ (n : Int) := by omega
          have hown1 := hownq.alloc (.cells (roomCells l[n] A' c') 25)
          have hokn := Room.okN_iff.1 (Room.ok_iff.1 (HS.out.out.2.1 _ (List.getElem_mem hlt))).1
          have hkey : keyOf Try.prog 3 (.int .i64 l[n].joins) = some (.int .i64 l[n].joins) := keyOf_int_mk Try.underlying3 (WalkArith.wf_i64 (by omega))
          obtain ⟨v, ps, hrun, hv⟩ := hown1.lookup (t := 53) keyedI' Try.underlying53 (zero_room _) (zd := vR 0 0) (zp := []) rfl hkey
          rw [HS.out.out.1.at_] at hv
          obtain ⟨h0, j0, hlk⟩ := look_form l l[n].joins
          rw [hlk] at hv
          obtain ⟨x1, x2, x3, x4, x5, x6, rfl⟩ := rdRoom_inv hv
          clear hv
          have hmo : mateOk l l[n] = decide (h0 = l[n].house ∧ j0 = l[n].id) := by
            rw [mate_look hokn.1, hlk]
          have HMO := Lib.hid hmo
          clear hmo hlk hokn hkey
          by_cases hj : l[n].joins = 0
          · have hj' : (l[n].joins != 0) = false := by rw [bne_eq_false_iff_eq]; exact hj
            have HJ := Lib.hid hj
            clear hj
            go_wp2_with fail
            go_roundw
            case rel =>
              refine ⟨n + 1, by omega, by go_num, (hown1.alloc _), Lib.hid (fun j h hjn => ?_), ?_⟩
              · by_cases e : j = n
                · subst e
                  rw [decide_eq_true HJ.out]
                  rfl
                · exact hP.out j h (by omega)
              · repeat' (first
                  | (with_reducible exact Below.refl _ _)
                  | (with_reducible assumption)
                  | (with_reducible refine below_drewN ?_ _)
                  | (with_reducible refine Below.drew ?_)
                  | (with_reducible refine below_regrown_up _ _ ?_ ?_)
                  | (with_reducible refine Below.alloc ?_ ?_ _)
                  | (with_reducible refine Below.setCell ?_ ?_ _)
                  | (with_reducible refine below_up ?_ ?_ (by assumption))
                  | (with_reducible exact Nat.le_refl _)
                  | omega
                  | (simp; done)
                  | (simp; omega))
            case measure => simp [intOf]; omega
          · have hj' : (l[n].joins != 0) = true := by rw [bne_iff_ne]; exact hj
            have HJ := Lib.hid hj
            clear hj
            by_cases hm1 : j0 = l[n].id
            · have g1 : (j0 != l[n].id) = false := by rw [bne_eq_false_iff_eq]; exact hm1
              have G1 := Lib.hid hm1
              clear hm1
              by_cases hm2 : h0 = l[n].house
              · have g2 : (h0 != l[n].house) = false := by rw [bne_eq_false_iff_eq]; exact hm2
                have G2 := Lib.hid hm2
                clear hm2
                go_wp2_with fail
                go_roundw
                case rel =>
                  refine ⟨n + 1, by omega, by go_num, (hown1.alloc _), Lib.hid (fun j h hjn => ?_), ?_⟩
                  · by_cases e : j = n
                    · subst e
                      rw [HMO.out]; simp [G1.out, G2.out]
                    · exact hP.out j h (by omega)
                  · repeat' (first
                      | (with_reducible exact Below.refl _ _)
                      | (with_reducible assumption)
                      | (with_reducible refine below_drewN ?_ _)
                      | (with_reducible refine Below.drew ?_)
                      | (with_reducible refine below_regrown_up _ _ ?_ ?_)
                      | (with_reducible refine Below.alloc ?_ ?_ _)
                      | (with_reducible refine Below.setCell ?_ ?_ _)
                      | (with_reducible refine below_up ?_ ?_ (by assumption))
                      | (with_reducible exact Nat.le_refl _)
                      | omega
                      | (simp; done)
                      | (simp; omega))
                case measure => simp [intOf]; omega
              · have g2 : (h0 != l[n].house) = true := by rw [bne_iff_ne]; exact hm2
                have HR := Lib.hid (roomsOk_pair hlt HS.out.out.2.2 (by rw [HMO.out, decide_eq_false HJ.out, decide_eq_false (fun h => hm2 h.1)]; rfl))
                clear hm2
                go_wp2_with fail
                go_ret
                refine ⟨ret_bool (by rw [HR.out]), ?_⟩
                repeat' (first
                  | (with_reducible exact Below.refl _ _)
                  | (with_reducible assumption)
                  | (with_reducible refine below_drewN ?_ _)
                  | (with_reducible refine Below.drew ?_)
                  | (with_reducible refine below_regrown_up _ _ ?_ ?_)
                  | (with_reducible refine Below.alloc ?_ ?_ _)
                  | (with_reducible refine Below.setCell ?_ ?_ _)
                  | (with_reducible refine below_up ?_ ?_ (by assumption))
                  | (with_reducible exact Nat.le_refl _)
                  | omega
                  | (simp; done)
                  | (simp; omega))
            · have g1 : (j0 != l[n].id) = true := by rw [bne_iff_ne]; exact hm1
              have HR := Lib.hid (roomsOk_pair hlt HS.out.out.2.2 (by rw [HMO.out, decide_eq_false HJ.out, decide_eq_false (fun h => hm1 h.2)]; rfl))
              clear hm1
              go_wp2_with fail
              go_ret
              refine ⟨ret_bool (by rw [HR.out]), ?_⟩
              repeat' (first
                | (with_reducible exact Below.refl _ _)
                | (with_reducible assumption)
                | (with_reducible refine below_drewN ?_ _)
                | (with_reducible refine Below.drew ?_)
                | (with_reducible refine below_regrown_up _ _ ?_ ?_)
                | (with_reducible refine Below.alloc ?_ ?_ _)
                | (with_reducible refine Below.setCell ?_ ?_ _)
                | (with_reducible refine below_up ?_ ?_ (by assumption))
                | (with_reducible exact Nat.le_refl _)
                | omega
                | (simp; done)
                | (simp; omega))
        · obtain rfl : n = l.length := by omega
          have HR := Lib.hid (roomsOk_all h4 HS.out.out.2.1 HS.out.out.2.2 (fun j h => hP.out j h h))
          go_wp2_with fail
          go_ret
          exact ⟨ret_bool (by rw [HR.out]), hbq⟩
end Go.Proofs.Ytphapnooonjnmaa
