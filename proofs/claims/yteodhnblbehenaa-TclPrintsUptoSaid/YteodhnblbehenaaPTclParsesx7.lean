-- PRINTED BY print.sh 35421559b90ae4d0a3588c463048766b98c2df88dd9212a6774a882060cdf62d: not written by this session
import Derived.Test.YteodhnblbehenaaPTclParsesx0
namespace Go.Proofs.Yteodhnblbehenaa.PTclParses
open Go.RowKit Go.Proofs.YteodhnblbehenaaW.PrintWords Go.Proofs.YteodhnblbehenaaW.PrintLast Go.Proofs.YteodhnblbehenaaW.PrintMore
attribute [local go_sem] max2_int min2_int max_two min_two max_three min_three max_four min_four   -- for this text's walks alone
set_option linter.unusedVariables false
set_option linter.unusedSimpArgs false

/-! ### cuecardlaw12_places: function 15 -/
mutual
def cuecardlaw12_places.l0 : Nat → List (S33) → List (S33) → Int → Int → Option (Bool)
  | 0, _, _, _, _ => none
  | k + 1, x0, x1, x13, x14 => if x14 < x13 then (if 0 ≤ x14 then (if x14 < (x0.length : Int) then (if x14 < (x1.length : Int) then (if ((rd_T33 x0 x14).f0) = ((rd_T33 x1 x14).f0) then (cuecardlaw12_places.j1 k x0 x1 x14 x13 x14 ((((rd_T33 x0 x14).f1).length : Int) != (((rd_T33 x1 x14).f1).length : Int))) else (cuecardlaw12_places.j1 k x0 x1 x14 x13 x14 true)) else (none)) else (none)) else (none)) else (some true)
def cuecardlaw12_places.j1 : Nat → List (S33) → List (S33) → Int → Int → Int → Bool → Option (Bool)
  | 0, _, _, _, _, _, _ => none
  | k + 1, x0, x1, x5, x13, x14, x42 => if x42 = true then (some false) else (if 0 ≤ x5 then (if x5 < (x0.length : Int) then (cuecardlaw12_places.l1 k x0 x1 x5 x13 x14 (((rd_T33 x0 x5).f1).length : Int) 0) else (none)) else (none))
def cuecardlaw12_places.l1 : Nat → List (S33) → List (S33) → Int → Int → Int → Int → Int → Option (Bool)
  | 0, _, _, _, _, _, _, _ => none
  | k + 1, x0, x1, x5, x13, x14, x48, x49 => if x49 < x48 then (if 0 ≤ x5 then (if x5 < (x0.length : Int) then (if 0 ≤ x49 then (if x49 < (((rd_T33 x0 x5).f1).length : Int) then (if x5 < (x1.length : Int) then (if x49 < (((rd_T33 x1 x5).f1).length : Int) then (if ((rd_T38 ((rd_T33 x0 x5).f1) x49).f0) = ((rd_T38 ((rd_T33 x1 x5).f1) x49).f0) then (cuecardlaw12_places.l1 k x0 x1 x5 x13 x14 x48 (wrap64 (x49 + 1))) else (some false)) else (none)) else (none)) else (none)) else (none)) else (none)) else (none)) else (cuecardlaw12_places.l0 k x0 x1 x13 (wrap64 (x14 + 1)))
end
def cuecardlaw12_places.f (k : Nat) (l0 : List (S33)) (l1 : List (S33)) : Option (Bool) := if (l0.length : Int) = (l1.length : Int) then (cuecardlaw12_places.l0 k l0 l1 (l0.length : Int) 0) else (some false)
theorem cuecardlaw12_places.mono_l : ∀ k, (∀ y0 y1 y2 y3, LeO (cuecardlaw12_places.l0 k y0 y1 y2 y3) (cuecardlaw12_places.l0 (k + 1) y0 y1 y2 y3)) ∧ (∀ y0 y1 y2 y3 y4 y5, LeO (cuecardlaw12_places.j1 k y0 y1 y2 y3 y4 y5) (cuecardlaw12_places.j1 (k + 1) y0 y1 y2 y3 y4 y5)) ∧ (∀ y0 y1 y2 y3 y4 y5 y6, LeO (cuecardlaw12_places.l1 k y0 y1 y2 y3 y4 y5 y6) (cuecardlaw12_places.l1 (k + 1) y0 y1 y2 y3 y4 y5 y6))
  | 0 => ⟨fun _ _ _ _ r h => by simp [cuecardlaw12_places.l0] at h, fun _ _ _ _ _ _ r h => by simp [cuecardlaw12_places.j1] at h, fun _ _ _ _ _ _ _ r h => by simp [cuecardlaw12_places.l1] at h⟩
  | k + 1 => by
    obtain ⟨ih0, ih1, ih2⟩ := cuecardlaw12_places.mono_l k
    refine ⟨?_, ?_, ?_⟩
    · intro y0 y1 y2 y3
      unfold cuecardlaw12_places.l0
      repeat' first
      | (with_reducible exact ih0 _ _ _ _)
      | (with_reducible exact ih1 _ _ _ _ _ _)
      | (with_reducible exact ih2 _ _ _ _ _ _ _)
      | (with_reducible exact LeO.refl _)
      | (with_reducible exact LeO.none _)
      | (with_reducible refine LeO.ite ?_ ?_)
      | (with_reducible refine LeO.bind ?_ (fun _ => ?_))
      | exact ih0 _ _ _ _
      | exact ih1 _ _ _ _ _ _
      | exact ih2 _ _ _ _ _ _ _
      | exact LeO.none _
      | refine LeO.ite ?_ ?_
      | refine LeO.bind ?_ (fun _ => ?_)
    · intro y0 y1 y2 y3 y4 y5
      unfold cuecardlaw12_places.j1
      repeat' first
      | (with_reducible exact ih0 _ _ _ _)
      | (with_reducible exact ih1 _ _ _ _ _ _)
      | (with_reducible exact ih2 _ _ _ _ _ _ _)
      | (with_reducible exact LeO.refl _)
      | (with_reducible exact LeO.none _)
      | (with_reducible refine LeO.ite ?_ ?_)
      | (with_reducible refine LeO.bind ?_ (fun _ => ?_))
      | exact ih0 _ _ _ _
      | exact ih1 _ _ _ _ _ _
      | exact ih2 _ _ _ _ _ _ _
      | exact LeO.none _
      | refine LeO.ite ?_ ?_
      | refine LeO.bind ?_ (fun _ => ?_)
    · intro y0 y1 y2 y3 y4 y5 y6
      unfold cuecardlaw12_places.l1
      repeat' first
      | (with_reducible exact ih0 _ _ _ _)
      | (with_reducible exact ih1 _ _ _ _ _ _)
      | (with_reducible exact ih2 _ _ _ _ _ _ _)
      | (with_reducible exact LeO.refl _)
      | (with_reducible exact LeO.none _)
      | (with_reducible refine LeO.ite ?_ ?_)
      | (with_reducible refine LeO.bind ?_ (fun _ => ?_))
      | exact ih0 _ _ _ _
      | exact ih1 _ _ _ _ _ _
      | exact ih2 _ _ _ _ _ _ _
      | exact LeO.none _
      | refine LeO.ite ?_ ?_
      | refine LeO.bind ?_ (fun _ => ?_)
theorem cuecardlaw12_places.mono : ∀ a0 a1 k, LeO (cuecardlaw12_places.f k a0 a1) (cuecardlaw12_places.f (k + 1) a0 a1) := by
  intro a0 a1 k
  obtain ⟨ih0, ih1, ih2⟩ := cuecardlaw12_places.mono_l k
  unfold cuecardlaw12_places.f
  repeat' first
      | (with_reducible exact ih0 _ _ _ _)
      | (with_reducible exact ih1 _ _ _ _ _ _)
      | (with_reducible exact ih2 _ _ _ _ _ _ _)
      | (with_reducible exact LeO.refl _)
      | (with_reducible exact LeO.none _)
      | (with_reducible refine LeO.ite ?_ ?_)
      | (with_reducible refine LeO.bind ?_ (fun _ => ?_))
      | exact ih0 _ _ _ _
      | exact ih1 _ _ _ _ _ _
      | exact ih2 _ _ _ _ _ _ _
      | exact LeO.none _
      | refine LeO.ite ?_ ?_
      | refine LeO.bind ?_ (fun _ => ?_)
set_option maxHeartbeats 8000000 in
set_option maxRecDepth 100000 in
theorem cuecardlaw12_places.calls (k : Nat) (A0 : Option Addr) (c0 : Nat) (l0 : List (S33)) (A1 : Option Addr) (c1 : Nat) (l1 : List (S33)) (r : Bool) (w : World) (hr0 : Kd.C k33 w A0 l0.length l0) (hc0 : l0.length ≤ c0) (hr1 : Kd.C k33 w A1 l1.length l1) (hc1 : l1.length ≤ c1) (h : cuecardlaw12_places.f k l0 l1 = some r) :
    Calls Try.prog 15 #[.slice A0 l0.length c0, .slice A1 l1.length c1] w fun e w' => e = .returned (.bool r) ∧ Drawn0 w w' := by
  have HR0 := Aside0.mk hr0
  have HC0 := Aside0.mk hc0
  clear hr0 hc0
  have HR1 := Aside0.mk hr1
  have HC1 := Aside0.mk hc1
  clear hr1 hc1
  have H : (if (l0.length : Int) = (l1.length : Int) then (cuecardlaw12_places.l0 k l0 l1 (l0.length : Int) 0) else (some false)) = some r := h
  clear h
  by_cases c3 : (l0.length : Int) = (l1.length : Int)
  · rw [if_pos c3] at H
    have c3b0 : ((l0.length : Int) == (l1.length : Int)) = true := beq_iff_eq.mpr c3
    have c3b1 : ((l0.length : Int) != (l1.length : Int)) = false := bne_eq_false_iff_eq.mpr c3
    have c3b2 : (l0.length == l1.length) = true := by first | simpa using c3 | (simp at c3 ⊢; omega)
    clear c3
    have H' := Aside0.mk H
    clear H
    go_enter Try.func15, Try.ntmps15
    go_wp2
    repeat (go_quiet (fail); try go_wp2)
    go_loopg [14] k (fun kq v14 w' => ∃ (x14_1 : Int), v14 = .int .i64 x14_1 ∧ Aside0 (cuecardlaw12_places.l0 kq l0 l1 (l0.length : Int) x14_1 = some r) ∧ Aside0 (kq ≤ k) ∧ Drawn0 w w')
    case atStart => exact ⟨(0), (by first | rfl | (simp; done) | (simp [*]; done)), H', ⟨Nat.le_refl _⟩, by repeat (first | exact Drawn0.refl _ | apply Drawn0.step)⟩
    case round =>
      clear H'
      try clear c1
      try clear p2
      try clear c3
      try clear c3b0
      try clear c3b1
      try clear c3b2
      obtain ⟨x14_1, rfl, HA, HK1, ⟨m1, rfl⟩⟩ := hrel
      cases gk with
      | zero => exact absurd HA.out (by simp [cuecardlaw12_places.l0])
      | succ k1 =>
        have H := HA.out
        clear HA
        simp only [cuecardlaw12_places.l0] at H
        by_cases c4 : x14_1 < (l0.length : Int)
        · rw [if_pos c4] at H
          have c4b0 : decide (x14_1 < (l0.length : Int)) = true := decide_eq_true c4
          clear c4
          have HC5 := Aside0.mk H
          clear H
          go_upto_region 6 with (fail)
          repeat (go_quiet (fail); go_upto_region 6 with (fail))
          go_cut [42] (fun v42 wc => ∃ (kq : Nat) (x42_4 : Bool), v42 = .bool x42_4 ∧ Aside0 (cuecardlaw12_places.j1 kq l0 l1 x14_1 (l0.length : Int) x14_1 x42_4 = some r) ∧ Aside0 (kq ≤ k1) ∧ Drawn0 w wc)
          case first =>
            have H := HC5.out
            clear HC5
            by_cases c6 : 0 ≤ x14_1
            · rw [if_pos c6] at H
              have c6b0 : decide (0 ≤ x14_1) = true := decide_eq_true c6
              clear c6
              (first | rw [c6b0] | (simp only [i64_w, i32_w]; rw [c6b0]) | skip)
              by_cases c7 : x14_1 < (l0.length : Int)
              · rw [if_pos c7] at H
                have c7b0 : decide (x14_1 < (l0.length : Int)) = true := decide_eq_true c7
                clear c7
                by_cases c8 : x14_1 < (l1.length : Int)
                · rw [if_pos c8] at H
                  have c8b0 : decide (x14_1 < (l1.length : Int)) = true := decide_eq_true c8
                  clear c8
                  by_cases c9 : ((rd_T33 l0 x14_1).f0) = ((rd_T33 l1 x14_1).f0)
                  · rw [if_pos c9] at H
                    have c9b0 : (((rd_T33 l0 x14_1).f0) == ((rd_T33 l1 x14_1).f0)) = true := beq_iff_eq.mpr c9
                    have c9b1 : (((rd_T33 l0 x14_1).f0) != ((rd_T33 l1 x14_1).f0)) = false := bne_eq_false_iff_eq.mpr c9
                    clear c9
                    have H' := Aside0.mk H
                    clear H
                    have p206 : 0 ≤ (x14_1 : Int) := of_decide_eq_true (by first | (with_reducible assumption) | assumption)
                    have q206 : x14_1 < (l0.length : Int) := of_decide_eq_true (by first | (with_reducible assumption) | assumption)
                    obtain ⟨ad206, A206_1, c206_1, e206, hx206_0, hx206_1, hl206_1, hi206_1⟩ := at_T33 HR0.out x14_1 p206 q206
                    cases e206
                    have HR206_1 := Aside0.mk hi206_1
                    have HC206_1 := Aside0.mk hl206_1
                    clear hi206_1 hl206_1
                    replace p206 := eq_true p206
                    replace q206 := eq_true q206
                    have p207 : 0 ≤ (x14_1 : Int) := of_decide_eq_true (by first | (with_reducible assumption) | assumption)
                    have q207 : x14_1 < (l1.length : Int) := of_decide_eq_true (by first | (with_reducible assumption) | assumption)
                    obtain ⟨ad207, A207_1, c207_1, e207, hx207_0, hx207_1, hl207_1, hi207_1⟩ := at_T33 HR1.out x14_1 p207 q207
                    cases e207
                    have HR207_1 := Aside0.mk hi207_1
                    have HC207_1 := Aside0.mk hl207_1
                    clear hi207_1 hl207_1
                    replace p207 := eq_true p207
                    replace q207 := eq_true q207
                    have p208 : 0 ≤ (x14_1 : Int) := of_decide_eq_true (by first | (with_reducible assumption) | assumption)
                    have q208 : x14_1 < (l0.length : Int) := of_decide_eq_true (by first | (with_reducible assumption) | assumption)
                    obtain ⟨ad208, A208_1, c208_1, e208, hx208_0, hx208_1, hl208_1, hi208_1⟩ := at_T33 HR0.out x14_1 p208 q208
                    obtain rfl : ad206 = ad208 := (by injection e208)
                    have HR208_1 := Aside0.mk hi208_1
                    have HC208_1 := Aside0.mk hl208_1
                    clear hi208_1 hl208_1
                    replace p208 := eq_true p208
                    replace q208 := eq_true q208
                    have ea_ := Option.some.inj (hx206_1.symm.trans hx208_1)
                    injection ea_ with ea_ en_ ec_
                    subst ea_
                    subst ec_
                    clear en_
                    have p209 : 0 ≤ (x14_1 : Int) := of_decide_eq_true (by first | (with_reducible assumption) | assumption)
                    have q209 : x14_1 < (l1.length : Int) := of_decide_eq_true (by first | (with_reducible assumption) | assumption)
                    obtain ⟨ad209, A209_1, c209_1, e209, hx209_0, hx209_1, hl209_1, hi209_1⟩ := at_T33 HR1.out x14_1 p209 q209
                    obtain rfl : ad207 = ad209 := (by injection e209)
                    have HR209_1 := Aside0.mk hi209_1
                    have HC209_1 := Aside0.mk hl209_1
                    clear hi209_1 hl209_1
                    replace p209 := eq_true p209
                    replace q209 := eq_true q209
                    have ea_ := Option.some.inj (hx207_1.symm.trans hx209_1)
                    injection ea_ with ea_ en_ ec_
                    subst ea_
                    subst ec_
                    clear en_
                    go_wp2
                    repeat (go_quiet (fail); try go_wp2)
                    go_meet
                    case rel => exact ⟨_, (((((rd_T33 l0 x14_1).f1).length : Int) != (((rd_T33 l1 x14_1).f1).length : Int))), (by first | rfl | (simp; done) | (simp [*]; done)), H', ⟨by have := HK1.out; first | omega | exact Nat.le_refl _⟩, by repeat (first | exact Drawn0.refl _ | apply Drawn0.step)⟩
                  · rw [if_neg c9] at H
                    have c9b0 : (((rd_T33 l0 x14_1).f0) == ((rd_T33 l1 x14_1).f0)) = false := beq_eq_false_iff_ne.mpr c9
                    have c9b1 : (((rd_T33 l0 x14_1).f0) != ((rd_T33 l1 x14_1).f0)) = true := bne_iff_ne.mpr c9
                    have H' := Aside0.mk H
                    clear H
                    have p206 : 0 ≤ (x14_1 : Int) := of_decide_eq_true (by first | (with_reducible assumption) | assumption)
                    have q206 : x14_1 < (l0.length : Int) := of_decide_eq_true (by first | (with_reducible assumption) | assumption)
                    obtain ⟨ad206, A206_1, c206_1, e206, hx206_0, hx206_1, hl206_1, hi206_1⟩ := at_T33 HR0.out x14_1 p206 q206
                    cases e206
                    have HR206_1 := Aside0.mk hi206_1
                    have HC206_1 := Aside0.mk hl206_1
                    clear hi206_1 hl206_1
                    replace p206 := eq_true p206
                    replace q206 := eq_true q206
                    have p207 : 0 ≤ (x14_1 : Int) := of_decide_eq_true (by first | (with_reducible assumption) | assumption)
                    have q207 : x14_1 < (l1.length : Int) := of_decide_eq_true (by first | (with_reducible assumption) | assumption)
                    obtain ⟨ad207, A207_1, c207_1, e207, hx207_0, hx207_1, hl207_1, hi207_1⟩ := at_T33 HR1.out x14_1 p207 q207
                    cases e207
                    have HR207_1 := Aside0.mk hi207_1
                    have HC207_1 := Aside0.mk hl207_1
                    clear hi207_1 hl207_1
                    replace p207 := eq_true p207
                    replace q207 := eq_true q207
                    go_wp2
                    repeat (go_quiet (fail); try go_wp2)
                    go_meet
                    case rel => exact ⟨_, (true), (by first | rfl | (simp; done) | (simp [*]; done)), H', ⟨by have := HK1.out; first | omega | exact Nat.le_refl _⟩, by repeat (first | exact Drawn0.refl _ | apply Drawn0.step)⟩
                · rw [if_neg c8] at H
                  exact absurd H (by simp)
              · rw [if_neg c7] at H
                exact absurd H (by simp)
            · rw [if_neg c6] at H
              exact absurd H (by simp)
          case rest =>
            clear HC5
            try clear c1
            try clear c2
            try clear p2
            try clear q2
            try clear hx2
            try clear c3
            try clear c3b0
            try clear c3b1
            try clear c3b2
            try clear c4
            try clear c4b0
            try clear c6
            try clear c6b0
            try clear c7
            try clear c7b0
            try clear c8
            try clear c8b0
            try clear c9
            try clear c9b0
            try clear c9b1
            try clear hx206_0
            try clear hx206_1
            try clear hx207_0
            try clear hx207_1
            try clear hx208_0
            try clear hx208_1
            try clear hx209_0
            try clear hx209_1
            try clear p2
            try clear p206
            try clear p207
            try clear p208
            try clear p209
            try clear q206
            try clear q207
            try clear q208
            try clear q209
            obtain ⟨kq, x42_4, rfl, HA, HJ4, ⟨mc4, rfl⟩⟩ := hcut
            cases kq with
            | zero => exact absurd HA.out (by simp [cuecardlaw12_places.j1])
            | succ kj4 =>
              have H := HA.out
              clear HA
              simp only [cuecardlaw12_places.j1] at H
              by_cases c10 : x42_4 = true
              · subst c10
                have H1 : (some false) = some r := by rw [if_pos rfl] at H; exact H
                clear H
                have H := H1
                clear H1
                obtain rfl := Option.some.inj H
                go_wp2
                repeat (go_quiet (fail); try go_wp2)
                go_ret
                exact ⟨by first | rfl | (simp; done) | (simp [*]; done), by repeat (first | exact Drawn0.refl _ | apply Drawn0.step)⟩
              · replace c10 := Bool.eq_false_iff.mpr c10
                subst c10
                have H1 : (if 0 ≤ x14_1 then (if x14_1 < (l0.length : Int) then (cuecardlaw12_places.l1 kj4 l0 l1 x14_1 (l0.length : Int) x14_1 (((rd_T33 l0 x14_1).f1).length : Int) 0) else (none)) else (none)) = some r := by rw [if_neg (show ¬ (false = true) by decide)] at H; exact H
                clear H
                have H := H1
                clear H1
                by_cases c11 : 0 ≤ x14_1
                · rw [if_pos c11] at H
                  have c11b0 : decide (0 ≤ x14_1) = true := decide_eq_true c11
                  clear c11
                  by_cases c12 : x14_1 < (l0.length : Int)
                  · rw [if_pos c12] at H
                    have c12b0 : decide (x14_1 < (l0.length : Int)) = true := decide_eq_true c12
                    clear c12
                    have H' := Aside0.mk H
                    clear H
                    have p210 : 0 ≤ (x14_1 : Int) := of_decide_eq_true (by first | (with_reducible assumption) | assumption)
                    have q210 : x14_1 < (l0.length : Int) := of_decide_eq_true (by first | (with_reducible assumption) | assumption)
                    obtain ⟨ad210, A210_1, c210_1, e210, hx210_0, hx210_1, hl210_1, hi210_1⟩ := at_T33 HR0.out x14_1 p210 q210
                    cases e210
                    have HR210_1 := Aside0.mk hi210_1
                    have HC210_1 := Aside0.mk hl210_1
                    clear hi210_1 hl210_1
                    replace p210 := eq_true p210
                    replace q210 := eq_true q210
                    go_wp2
                    repeat (go_quiet (fail); try go_wp2)
                    go_loopg [49] kj4 (fun kq v49 w' => ∃ (x49_3 : Int), v49 = .int .i64 x49_3 ∧ Aside0 (cuecardlaw12_places.l1 kq l0 l1 x14_1 (l0.length : Int) x14_1 (((rd_T33 l0 x14_1).f1).length : Int) x49_3 = some r) ∧ Aside0 (kq ≤ kj4) ∧ Drawn0 w w')
                    case atStart => exact ⟨(0), (by first | rfl | (simp; done) | (simp [*]; done)), H', ⟨Nat.le_refl _⟩, by repeat (first | exact Drawn0.refl _ | apply Drawn0.step)⟩
                    case round =>
                      clear H'
                      try clear c1
                      try clear c2
                      try clear p2
                      try clear q2
                      try clear hx2
                      try clear c3
                      try clear c3b0
                      try clear c3b1
                      try clear c3b2
                      try clear c4
                      try clear c4b0
                      try clear c6
                      try clear c6b0
                      try clear c7
                      try clear c7b0
                      try clear c8
                      try clear c8b0
                      try clear c9
                      try clear c9b0
                      try clear c9b1
                      try clear c10
                      try clear c11
                      try clear c11b0
                      try clear c12
                      try clear c12b0
                      try clear hx206_0
                      try clear hx206_1
                      try clear hx207_0
                      try clear hx207_1
                      try clear hx208_0
                      try clear hx208_1
                      try clear hx209_0
                      try clear hx209_1
                      try clear hx210_0
                      try clear hx210_1
                      try clear p2
                      try clear p206
                      try clear p207
                      try clear p208
                      try clear p209
                      try clear p210
                      try clear q2
                      try clear q206
                      try clear q207
                      try clear q208
                      try clear q209
                      try clear q210
                      obtain ⟨x49_3, rfl, HA, HK3, ⟨m3, rfl⟩⟩ := hrel
                      cases gk with
                      | zero => exact absurd HA.out (by simp [cuecardlaw12_places.l1])
                      | succ k3 =>
                        have H := HA.out
                        clear HA
                        simp only [cuecardlaw12_places.l1] at H
                        by_cases c13 : x49_3 < (((rd_T33 l0 x14_1).f1).length : Int)
                        · rw [if_pos c13] at H
                          have c13b0 : decide (x49_3 < (((rd_T33 l0 x14_1).f1).length : Int)) = true := decide_eq_true c13
                          clear c13
                          by_cases c14 : 0 ≤ x14_1
                          · rw [if_pos c14] at H
                            have c14b0 : decide (0 ≤ x14_1) = true := decide_eq_true c14
                            clear c14
                            by_cases c15 : x14_1 < (l0.length : Int)
                            · rw [if_pos c15] at H
                              have c15b0 : decide (x14_1 < (l0.length : Int)) = true := decide_eq_true c15
                              clear c15
                              by_cases c16 : 0 ≤ x49_3
                              · rw [if_pos c16] at H
                                have c16b0 : decide (0 ≤ x49_3) = true := decide_eq_true c16
                                clear c16
                                by_cases c17 : x49_3 < (((rd_T33 l0 x14_1).f1).length : Int)
                                · rw [if_pos c17] at H
                                  have c17b0 : decide (x49_3 < (((rd_T33 l0 x14_1).f1).length : Int)) = true := decide_eq_true c17
                                  clear c17
                                  by_cases c18 : x14_1 < (l1.length : Int)
                                  · rw [if_pos c18] at H
                                    have c18b0 : decide (x14_1 < (l1.length : Int)) = true := decide_eq_true c18
                                    clear c18
                                    by_cases c19 : x49_3 < (((rd_T33 l1 x14_1).f1).length : Int)
                                    · rw [if_pos c19] at H
                                      have c19b0 : decide (x49_3 < (((rd_T33 l1 x14_1).f1).length : Int)) = true := decide_eq_true c19
                                      clear c19
                                      by_cases c20 : ((rd_T38 ((rd_T33 l0 x14_1).f1) x49_3).f0) = ((rd_T38 ((rd_T33 l1 x14_1).f1) x49_3).f0)
                                      · rw [if_pos c20] at H
                                        have c20b0 : (((rd_T38 ((rd_T33 l0 x14_1).f1) x49_3).f0) == ((rd_T38 ((rd_T33 l1 x14_1).f1) x49_3).f0)) = true := beq_iff_eq.mpr c20
                                        have c20b1 : (((rd_T38 ((rd_T33 l0 x14_1).f1) x49_3).f0) != ((rd_T38 ((rd_T33 l1 x14_1).f1) x49_3).f0)) = false := bne_eq_false_iff_eq.mpr c20
                                        clear c20
                                        have H' := Aside0.mk H
                                        clear H
                                        have p211 : 0 ≤ (x14_1 : Int) := of_decide_eq_true (by first | (with_reducible assumption) | assumption)
                                        have q211 : x14_1 < (l0.length : Int) := of_decide_eq_true (by first | (with_reducible assumption) | assumption)
                                        obtain ⟨ad211, A211_1, c211_1, e211, hx211_0, hx211_1, hl211_1, hi211_1⟩ := at_T33 HR0.out x14_1 p211 q211
                                        obtain rfl : ad210 = ad211 := (by injection e211)
                                        have HR211_1 := Aside0.mk hi211_1
                                        have HC211_1 := Aside0.mk hl211_1
                                        clear hi211_1 hl211_1
                                        replace p211 := eq_true p211
                                        replace q211 := eq_true q211
                                        have p212 : 0 ≤ (x49_3 : Int) := of_decide_eq_true (by first | (with_reducible assumption) | assumption)
                                        have q212 : x49_3 < (((rd_T33 l0 x14_1).f1).length : Int) := of_decide_eq_true (by first | (with_reducible assumption) | assumption)
                                        obtain ⟨ad212, A212_2, c212_2, e212, hx212_0, hx212_1, hx212_2, hl212_2, hi212_2⟩ := at_T38 HR211_1.out x49_3 p212 q212
                                        cases e212
                                        have HR212_2 := Aside0.mk hi212_2
                                        have HC212_2 := Aside0.mk hl212_2
                                        clear hi212_2 hl212_2
                                        replace p212 := eq_true p212
                                        replace q212 := eq_true q212
                                        have p213 : 0 ≤ (x14_1 : Int) := of_decide_eq_true (by first | (with_reducible assumption) | assumption)
                                        have q213 : x14_1 < (l1.length : Int) := of_decide_eq_true (by first | (with_reducible assumption) | assumption)
                                        obtain ⟨ad213, A213_1, c213_1, e213, hx213_0, hx213_1, hl213_1, hi213_1⟩ := at_T33 HR1.out x14_1 p213 q213
                                        cases e213
                                        have HR213_1 := Aside0.mk hi213_1
                                        have HC213_1 := Aside0.mk hl213_1
                                        clear hi213_1 hl213_1
                                        replace p213 := eq_true p213
                                        replace q213 := eq_true q213
                                        have p214 : 0 ≤ (x49_3 : Int) := of_decide_eq_true (by first | (with_reducible assumption) | assumption)
                                        have q214 : x49_3 < (((rd_T33 l1 x14_1).f1).length : Int) := of_decide_eq_true (by first | (with_reducible assumption) | assumption)
                                        obtain ⟨ad214, A214_2, c214_2, e214, hx214_0, hx214_1, hx214_2, hl214_2, hi214_2⟩ := at_T38 HR213_1.out x49_3 p214 q214
                                        cases e214
                                        have HR214_2 := Aside0.mk hi214_2
                                        have HC214_2 := Aside0.mk hl214_2
                                        clear hi214_2 hl214_2
                                        replace p214 := eq_true p214
                                        replace q214 := eq_true q214
                                        go_wp2
                                        repeat (go_quiet (fail); try go_wp2)
                                        go_roundg k3
                                        case measure => have := HK1.out; have := HJ4.out; have := HK3.out; omega
                                        case rel => exact ⟨(wrap64 (x49_3 + 1)), (by first | rfl | (simp; done) | (simp [*]; done)), H', ⟨by have := HK1.out; have := HJ4.out; have := HK3.out; omega⟩, by repeat (first | exact Drawn0.refl _ | apply Drawn0.step)⟩
                                      · rw [if_neg c20] at H
                                        have c20b0 : (((rd_T38 ((rd_T33 l0 x14_1).f1) x49_3).f0) == ((rd_T38 ((rd_T33 l1 x14_1).f1) x49_3).f0)) = false := beq_eq_false_iff_ne.mpr c20
                                        have c20b1 : (((rd_T38 ((rd_T33 l0 x14_1).f1) x49_3).f0) != ((rd_T38 ((rd_T33 l1 x14_1).f1) x49_3).f0)) = true := bne_iff_ne.mpr c20
                                        obtain rfl := Option.some.inj H
                                        have p211 : 0 ≤ (x14_1 : Int) := of_decide_eq_true (by first | (with_reducible assumption) | assumption)
                                        have q211 : x14_1 < (l0.length : Int) := of_decide_eq_true (by first | (with_reducible assumption) | assumption)
                                        obtain ⟨ad211, A211_1, c211_1, e211, hx211_0, hx211_1, hl211_1, hi211_1⟩ := at_T33 HR0.out x14_1 p211 q211
                                        obtain rfl : ad210 = ad211 := (by injection e211)
                                        have HR211_1 := Aside0.mk hi211_1
                                        have HC211_1 := Aside0.mk hl211_1
                                        clear hi211_1 hl211_1
                                        replace p211 := eq_true p211
                                        replace q211 := eq_true q211
                                        have p212 : 0 ≤ (x49_3 : Int) := of_decide_eq_true (by first | (with_reducible assumption) | assumption)
                                        have q212 : x49_3 < (((rd_T33 l0 x14_1).f1).length : Int) := of_decide_eq_true (by first | (with_reducible assumption) | assumption)
                                        obtain ⟨ad212, A212_2, c212_2, e212, hx212_0, hx212_1, hx212_2, hl212_2, hi212_2⟩ := at_T38 HR211_1.out x49_3 p212 q212
                                        cases e212
                                        have HR212_2 := Aside0.mk hi212_2
                                        have HC212_2 := Aside0.mk hl212_2
                                        clear hi212_2 hl212_2
                                        replace p212 := eq_true p212
                                        replace q212 := eq_true q212
                                        have p213 : 0 ≤ (x14_1 : Int) := of_decide_eq_true (by first | (with_reducible assumption) | assumption)
                                        have q213 : x14_1 < (l1.length : Int) := of_decide_eq_true (by first | (with_reducible assumption) | assumption)
                                        obtain ⟨ad213, A213_1, c213_1, e213, hx213_0, hx213_1, hl213_1, hi213_1⟩ := at_T33 HR1.out x14_1 p213 q213
                                        cases e213
                                        have HR213_1 := Aside0.mk hi213_1
                                        have HC213_1 := Aside0.mk hl213_1
                                        clear hi213_1 hl213_1
                                        replace p213 := eq_true p213
                                        replace q213 := eq_true q213
                                        have p214 : 0 ≤ (x49_3 : Int) := of_decide_eq_true (by first | (with_reducible assumption) | assumption)
                                        have q214 : x49_3 < (((rd_T33 l1 x14_1).f1).length : Int) := of_decide_eq_true (by first | (with_reducible assumption) | assumption)
                                        obtain ⟨ad214, A214_2, c214_2, e214, hx214_0, hx214_1, hx214_2, hl214_2, hi214_2⟩ := at_T38 HR213_1.out x49_3 p214 q214
                                        cases e214
                                        have HR214_2 := Aside0.mk hi214_2
                                        have HC214_2 := Aside0.mk hl214_2
                                        clear hi214_2 hl214_2
                                        replace p214 := eq_true p214
                                        replace q214 := eq_true q214
                                        go_wp2
                                        repeat (go_quiet (fail); try go_wp2)
                                        go_ret
                                        exact ⟨by first | rfl | (simp; done) | (simp [*]; done), by repeat (first | exact Drawn0.refl _ | apply Drawn0.step)⟩
                                    · rw [if_neg c19] at H
                                      exact absurd H (by simp)
                                  · rw [if_neg c18] at H
                                    exact absurd H (by simp)
                                · rw [if_neg c17] at H
                                  exact absurd H (by simp)
                              · rw [if_neg c16] at H
                                exact absurd H (by simp)
                            · rw [if_neg c15] at H
                              exact absurd H (by simp)
                          · rw [if_neg c14] at H
                            exact absurd H (by simp)
                        · rw [if_neg c13] at H
                          have c13b0 : decide (x49_3 < (((rd_T33 l0 x14_1).f1).length : Int)) = false := decide_eq_false c13
                          clear c13
                          have H' := Aside0.mk H
                          clear H
                          go_wp2
                          repeat (go_quiet (fail); try go_wp2)
                          go_roundg k3
                          case measure => have := HK1.out; have := HJ4.out; have := HK3.out; omega
                          case rel => exact ⟨(wrap64 (x14_1 + 1)), (by first | rfl | (simp; done) | (simp [*]; done)), H', ⟨by have := HK1.out; have := HJ4.out; have := HK3.out; omega⟩, by repeat (first | exact Drawn0.refl _ | apply Drawn0.step)⟩
                  · rw [if_neg c12] at H
                    exact absurd H (by simp)
                · rw [if_neg c11] at H
                  exact absurd H (by simp)
        · rw [if_neg c4] at H
          have c4b0 : decide (x14_1 < (l0.length : Int)) = false := decide_eq_false c4
          clear c4
          obtain rfl := Option.some.inj H
          go_wp2
          repeat (go_quiet (fail); try go_wp2)
          go_ret
          exact ⟨by first | rfl | (simp; done) | (simp [*]; done), by repeat (first | exact Drawn0.refl _ | apply Drawn0.step)⟩
  · rw [if_neg c3] at H
    have c3b0 : ((l0.length : Int) == (l1.length : Int)) = false := beq_eq_false_iff_ne.mpr c3
    have c3b1 : ((l0.length : Int) != (l1.length : Int)) = true := bne_iff_ne.mpr c3
    have c3b2 : (l0.length == l1.length) = false := by first | simpa using c3 | (simp at c3 ⊢; omega)
    obtain rfl := Option.some.inj H
    go_enter Try.func15, Try.ntmps15
    go_wp2
    repeat (go_quiet (fail); try go_wp2)
    go_ret
    exact ⟨by first | rfl | (simp; done) | (simp [*]; done), by repeat (first | exact Drawn0.refl _ | apply Drawn0.step)⟩

-- NOT PRINTED: function 3 (cuecardlaw12_TclParses)

end Go.Proofs.Yteodhnblbehenaa.PTclParses
