/- Contracts of event.Check, of the reference of layer 4's Check, and of the laws' great. Conditions: as they state. -/
import Derived.Test.YtncoedoiakaedaaDoorRight
set_option linter.unusedVariables false
set_option linter.unusedSimpArgs false
namespace Go.Proofs.YtncoedoiakaedaaDoor
open Go.RowKit Turn Tl
namespace Ev_
def chk : List EI → Int → Int
  | [], _ => 0
  | e :: r, left => if e.1 ≠ 0 ∧ e.1 ≠ 1 then 2 else if 65536 < e.2.length ∨ left - e.2.length < 0 then 6 else chk r (left - e.2.length)
def checkI (l : List EI) : Int := if 4096 < l.length then 10 else chk l 262144
theorem chk_zero : ∀ (l : List EI) (left : Int), chk l left = 0 → (totI l : Int) ≤ max left 0
  | [], left, _ => by unfold totI; simp; omega
  | e :: r, left, h => by
    unfold chk at h
    split at h
    · cases h
    · split at h
      · cases h
      · rename_i h2
        have := chk_zero r _ h
        unfold totI at this ⊢
        simp only [List.map_cons, List.sum_cons]
        omega
theorem check_zero {l : List EI} (h : checkI l = 0) : l.length ≤ 4096 ∧ totI l ≤ 262144 := by
  unfold checkI at h
  split at h
  · cases h
  · have := chk_zero l _ h
    omega
theorem drop_cons {l : List EI} {i : Nat} {e : EI} (h : l[i]? = some e) : l.drop i = e :: l.drop (i + 1) := by
  obtain ⟨hl, he⟩ := List.getElem?_eq_some_iff.1 h
  rw [List.drop_eq_getElem_cons hl, he]
theorem sl_len63 {w : World} {s : Nat} {A : Option Addr} {n c : Nat} {xs : List Value} (h : Sl w s (.slice A n c) n xs) : n ≤ 9223372036854775807 := by
  obtain ⟨_, _, e, _, h1, h2, _⟩ := h
  simp at e
  unfold maxLen at h2
  omega
set_option maxRecDepth 100000 in
set_option maxHeartbeats 4000000 in
theorem check_any (w : World) (l : List EI) (A : Option Addr) (n c : Nat) (cells : List Value) (hn : l.length = n) (hS : Sl w 3 (.slice A n c) n cells) (hE : EvC w cells l) :
    Calls Tryd.prog 22 #[.slice A n c] w fun e w' => e = .returned (.int .i64 (checkI l)) ∧ Chg [] w w' := by
  have hn63 := sl_len63 hS
  obtain ⟨R, hR⟩ : ∃ R, checkI l = R := ⟨_, rfl⟩
  rw [hR]
  replace hn := Lib.hid hn
  replace hS := Lib.hid hS
  replace hE := Lib.hid hE
  by_cases hbig : 4096 < n
  · have hRv : R = 10 := by rw [← hR]; unfold checkI; rw [if_pos (by rw [hn.out]; exact hbig)]
    subst hRv
    have hb1 : (4096 : Int) < (n : Int) := by omega
    clear hS hE hR
    go_enter Tryd.func22, Tryd.ntmps22
    go_wp2_with fail
    go_ret
    exact ⟨rfl, Chg.refl _ _⟩
  have hb1 : ¬ (4096 : Int) < (n : Int) := by omega
  have hR0 : Hid (R = chk l 262144) := Lib.hid (by rw [← hR]; unfold checkI; rw [if_neg (by rw [hn.out]; exact hbig)])
  clear hR
  go_enter Tryd.func22, Tryd.ntmps22
  go_wp2_with fail
  go_loopg [3, 5, 11] n (fun gk v3 v5 v11 wr => ∃ (i : Nat) (left : Int), v11 = .int .i64 i ∧ v3 = .int .i64 left ∧ i ≤ n ∧ gk = n - i ∧ 0 ≤ left ∧ left ≤ 262144 ∧ Hid (R = chk (l.drop i) left) ∧ Hid (Chg [] w wr))
  case atStart => exact ⟨0, 262144, rfl, rfl, by omega, by omega, by omega, by omega, Lib.hid (by rw [hR0.out]; rfl), Lib.hid (Chg.refl _ _)⟩
  case round =>
    obtain ⟨i, left, rfl, rfl, hi, rfl, hl0, hl1, hr, hC⟩ := hrel
    by_cases hlt : i < n
    · obtain ⟨e, he⟩ : ∃ e, l[i]? = some e := ⟨_, List.getElem?_eq_getElem (by have := hn.out; omega)⟩
      obtain ⟨b, o, rfl, hcell⟩ := Sl.at3 (hS.out.chg hC.out (by simp)) i hlt
      obtain ⟨t, A', c', h1, h2, h3, h4⟩ := (hE.out.chg0 hC.out).2 i e he
      have x0 := hcell 0 _ (by rw [Nat.add_zero]; exact h1)
      have x1 := hcell 1 _ h2
      have x2 := hcell 2 _ h3
      rw [Nat.add_zero] at x0
      have hr2 := hr.out
      rw [drop_cons he] at hr2
      unfold chk at hr2
      have hy63 := sl_len63 h4
      obtain ⟨d, y⟩ := e
      simp only at x0 x1 x2 hr2 hy63
      obtain ⟨ny, hny⟩ : ∃ ny, y.length = ny := ⟨_, rfl⟩
      rw [hny] at x2 hr2 hy63
      have hCa := Lib.hid (hC.out.alloc (.cells #[.int .i64 d, .int .i64 t, .slice A' ny c'] 37 (0, 0)))
      have hw0 := IntWalk.i64_in (left - (ny : Int)) (by omega)
      clear hcell h1 h2 h3 h4 he hny hr hC hS hE
      by_cases h0 : d = 0 ∨ d = 1
      · rw [if_neg (by omega)] at hr2
        have hd : (d != 0) = false ∨ ((d != 0) = true ∧ (d != 1) = false) := by
          rcases h0 with rfl | rfl
          · left; rfl
          · right; exact ⟨rfl, rfl⟩
        by_cases hlong : 65536 < ny
        · rw [if_pos (.inl hlong)] at hr2
          have hg1 : (65536 : Int) < (ny : Int) := by omega
          replace hr2 := Lib.hid hr2
          rcases hd with hd | ⟨hd, hd'⟩
          all_goals
            go_wp2_with fail
            go_ret
            exact ⟨by rw [hr2.out]; rfl, hCa.out⟩
        · have hg1 : ¬ (65536 : Int) < (ny : Int) := by omega
          by_cases hneg : left - (ny : Int) < 0
          · rw [if_pos (.inr hneg)] at hr2
            replace hr2 := Lib.hid hr2
            rcases hd with hd | ⟨hd, hd'⟩
            all_goals
              go_wp2_with fail
              go_ret
              exact ⟨by rw [hr2.out]; rfl, hCa.out⟩
          · rw [if_neg (by omega)] at hr2
            replace hr2 := Lib.hid hr2
            rcases hd with hd | ⟨hd, hd'⟩
            all_goals
              go_wp2_with fail
              go_roundg (n - (i + 1))
              case measure => omega
              case rel => exact ⟨i + 1, left - ny, by go_num, rfl, by omega, rfl, by omega, by omega, hr2, hCa⟩
      · rw [if_pos (by omega)] at hr2
        replace hr2 := Lib.hid hr2
        have hd1 : (d != 0) = true := by simp; omega
        have hd2 : (d != 1) = true := by simp; omega
        go_wp2_with fail
        go_ret
        exact ⟨by rw [hr2.out]; rfl, hCa.out⟩
    · obtain rfl : i = n := by omega
      have hr2 : Hid (R = 0) := Lib.hid (by have := hr.out; rw [List.drop_eq_nil_of_le (by rw [hn.out]; exact Nat.le_refl _)] at this; exact this)
      clear hS hE
      go_wp2_with fail
      go_ret
      exact ⟨by rw [hr2.out]; rfl, hC.out⟩
set_option maxRecDepth 100000 in
set_option maxHeartbeats 4000000 in
theorem rcheck_any (w : World) (l : List EI) (A : Option Addr) (n c : Nat) (cells : List Value) (hn : l.length = n) (hS : Sl w 3 (.slice A n c) n cells) (hE : EvC w cells l) :
    Calls Tryd.prog 13 #[.slice A n c] w fun e w' => e = .returned (.int .i64 (checkI l)) ∧ Chg [] w w' := by
  have hn63 := sl_len63 hS
  obtain ⟨R, hR⟩ : ∃ R, checkI l = R := ⟨_, rfl⟩
  rw [hR]
  replace hn := Lib.hid hn
  replace hS := Lib.hid hS
  replace hE := Lib.hid hE
  by_cases hbig : 4096 < n
  · have hRv : R = 10 := by rw [← hR]; unfold checkI; rw [if_pos (by rw [hn.out]; exact hbig)]
    subst hRv
    have hb1 : (4096 : Int) < (n : Int) := by omega
    clear hS hE hR
    go_enter Tryd.func13, Tryd.ntmps13
    go_wp2_with fail
    go_ret
    exact ⟨rfl, Chg.refl _ _⟩
  have hb1 : ¬ (4096 : Int) < (n : Int) := by omega
  have hR0 : Hid (R = chk l 262144) := Lib.hid (by rw [← hR]; unfold checkI; rw [if_neg (by rw [hn.out]; exact hbig)])
  clear hR
  go_enter Tryd.func13, Tryd.ntmps13
  go_wp2_with fail
  go_loopg [3, 4] n (fun gk v3 v11 wr => ∃ (i : Nat) (left : Int), v11 = .int .i64 i ∧ v3 = .int .i64 (262144 - left) ∧ i ≤ n ∧ gk = n - i ∧ 0 ≤ left ∧ left ≤ 262144 ∧ Hid (R = chk (l.drop i) left) ∧ Hid (Chg [] w wr))
  case atStart => exact ⟨0, 262144, rfl, by rfl, by omega, by omega, by omega, by omega, Lib.hid (by rw [hR0.out]; rfl), Lib.hid (Chg.refl _ _)⟩
  case round =>
    obtain ⟨i, left, rfl, rfl, hi, rfl, hl0, hl1, hr, hC⟩ := hrel
    by_cases hlt : i < n
    · obtain ⟨e, he⟩ : ∃ e, l[i]? = some e := ⟨_, List.getElem?_eq_getElem (by have := hn.out; omega)⟩
      obtain ⟨b, o, rfl, hcell⟩ := Sl.at3 (hS.out.chg hC.out (by simp)) i hlt
      obtain ⟨t, A', c', h1, h2, h3, h4⟩ := (hE.out.chg0 hC.out).2 i e he
      have x0 := hcell 0 _ (by rw [Nat.add_zero]; exact h1)
      have x1 := hcell 1 _ h2
      have x2 := hcell 2 _ h3
      rw [Nat.add_zero] at x0
      have hr2 := hr.out
      rw [drop_cons he] at hr2
      unfold chk at hr2
      have hy63 := sl_len63 h4
      obtain ⟨d, y⟩ := e
      simp only at x0 x1 x2 hr2 hy63
      obtain ⟨ny, hny⟩ : ∃ ny, y.length = ny := ⟨_, rfl⟩
      rw [hny] at x2 hr2 hy63
      have hCa := hC
      clear hcell h1 h2 h3 h4 he hny hr hC hS hE
      by_cases h0 : d = 0 ∨ d = 1
      · rw [if_neg (by omega)] at hr2
        have hd : (d != 0) = false ∨ ((d != 0) = true ∧ (d != 1) = false) := by
          rcases h0 with rfl | rfl
          · left; rfl
          · right; exact ⟨rfl, rfl⟩
        by_cases hlong : 65536 < ny
        · rw [if_pos (.inl hlong)] at hr2
          have hg1 : (65536 : Int) < (ny : Int) := by omega
          obtain ⟨z2, hz2⟩ : ∃ z, IntKind.i64.wrap (262144 - left + (ny : Int)) = z := ⟨_, rfl⟩
          replace hr2 := Lib.hid hr2
          rcases hd with hd | ⟨hd, hd'⟩
          all_goals
            go_wp2_with fail
            go_ret
            exact ⟨by rw [hr2.out]; rfl, hCa.out⟩
        · have hg1 : ¬ (65536 : Int) < (ny : Int) := by omega
          have hw0 := IntWalk.i64_in (262144 - left + (ny : Int)) (by omega)
          by_cases hneg : left - (ny : Int) < 0
          · rw [if_pos (.inr hneg)] at hr2
            replace hr2 := Lib.hid hr2
            rcases hd with hd | ⟨hd, hd'⟩
            all_goals
              go_wp2_with fail
              go_ret
              exact ⟨by rw [hr2.out]; rfl, hCa.out⟩
          · rw [if_neg (by omega)] at hr2
            replace hr2 := Lib.hid hr2
            rcases hd with hd | ⟨hd, hd'⟩
            all_goals
              go_wp2_with fail
              go_roundg (n - (i + 1))
              case measure => omega
              case rel => exact ⟨i + 1, left - ny, by go_num, by congr 1; omega, by omega, rfl, by omega, by omega, hr2, hCa⟩
      · rw [if_pos (by omega)] at hr2
        replace hr2 := Lib.hid hr2
        have hd1 : (d != 0) = true := by simp; omega
        have hd2 : (d != 1) = true := by simp; omega
        go_wp2_with fail
        go_ret
        exact ⟨by rw [hr2.out]; rfl, hCa.out⟩
    · obtain rfl : i = n := by omega
      have hr2 : Hid (R = 0) := Lib.hid (by have := hr.out; rw [List.drop_eq_nil_of_le (by rw [hn.out]; exact Nat.le_refl _)] at this; exact this)
      clear hS hE
      go_wp2_with fail
      go_ret
      exact ⟨by rw [hr2.out]; rfl, hC.out⟩
def GreatEnd (n : Nat) (e : Ending) : Prop := ∃ b : Bool, e = .returned (.bool b) ∧ (b = false → n ≤ 100)
set_option maxRecDepth 100000 in
set_option maxHeartbeats 4000000 in
theorem great_any (w : World) (l : List EI) (A : Option Addr) (n c : Nat) (cells : List Value) (hn : l.length = n) (hS : Sl w 3 (.slice A n c) n cells) (hE : EvC w cells l) :
    Calls Tryd.prog 10 #[.slice A n c] w fun e w' => GreatEnd n e ∧ Chg [] w w' := by
  have hn63 := sl_len63 hS
  replace hn := Lib.hid hn
  replace hS := Lib.hid hS
  replace hE := Lib.hid hE
  go_enter Tryd.func10, Tryd.ntmps10
  go_wp2_with fail
  go_loopg [3, 5, 8] n (fun gk v3 v5 v8 wr => ∃ (i : Nat) (z : Int), v8 = .int .i64 i ∧ v3 = .int .i64 z ∧ i ≤ n ∧ gk = n - i ∧ Hid (Chg [] w wr))
  case atStart => exact ⟨0, 0, rfl, rfl, by omega, by omega, Lib.hid (Chg.refl _ _)⟩
  case round =>
    obtain ⟨i, z, rfl, rfl, hi, rfl, hC⟩ := hrel
    by_cases hlt : i < n
    · obtain ⟨e, he⟩ : ∃ e, l[i]? = some e := ⟨_, List.getElem?_eq_getElem (by have := hn.out; omega)⟩
      obtain ⟨b, o, rfl, hcell⟩ := Sl.at3 (hS.out.chg hC.out (by simp)) i hlt
      obtain ⟨t, A', c', h1, h2, h3, h4⟩ := (hE.out.chg0 hC.out).2 i e he
      have x0 := hcell 0 _ (by rw [Nat.add_zero]; exact h1)
      have x1 := hcell 1 _ h2
      have x2 := hcell 2 _ h3
      rw [Nat.add_zero] at x0
      obtain ⟨d, y⟩ := e
      simp only at x0 x1 x2
      obtain ⟨z2, hz2⟩ : ∃ z2, IntKind.i64.wrap (z + (y.length : Int)) = z2 := ⟨_, rfl⟩
      have hCa := Lib.hid (hC.out.alloc (.cells #[.int .i64 d, .int .i64 t, .slice A' y.length c'] 37 (0, 0)))
      clear hcell h1 h2 h3 h4 he hC hS hE
      go_wp2_with fail
      go_roundg (n - (i + 1))
      case measure => omega
      case rel => exact ⟨i + 1, z2, by go_num, rfl, by omega, rfl, hCa⟩
    · obtain rfl : i = n := by omega
      clear hS hE
      by_cases hz : 400 < z
      · go_wp2_with fail
        go_ret
        exact ⟨⟨true, rfl, by simp⟩, hC.out⟩
      · by_cases h1 : 100 < i
        · have h2 : (100 : Int) < (i : Int) := by omega
          go_wp2_with fail
          go_ret
          exact ⟨⟨true, rfl, by simp⟩, hC.out⟩
        · have h2 : ¬ (100 : Int) < (i : Int) := by omega
          go_wp2_with fail
          go_ret
          exact ⟨⟨false, rfl, fun _ => by omega⟩, hC.out⟩
end Ev_
end Go.Proofs.YtncoedoiakaedaaDoor
