/- WindowCuts: the walk. No condition. -/
import Derived.Test.YtjfbbobaghdocaaWinLaw
import Derived.Test.YtjfbbobaghdocaaLib2
set_option linter.unusedVariables false
set_option linter.unusedSimpArgs false
namespace Go.Proofs.Ytjfbbobaghdocaa
open Go.RowKit

set_option maxHeartbeats 4000000 in
theorem windowCuts_walk (m : Int) (A1 A2 : Option Addr) (l1 c1 l2 c2 : Nat) (xs ys : List Int) (w : World)
    (h1 : Sl w 1 (.slice A1 l1 c1) l1 (cellsOf .u8 xs)) (h2 : Sl w 1 (.slice A2 l2 c2) l2 (cellsOf .u8 ys)) (m1 : m ≤ 9223372036854775807) :
    Calls Try.prog 5 #[.int .i64 m, .slice A1 l1 c1, .slice A2 l2 c2] w fun e w' => e = .returned (.bool true) ∧ Below w.heap.size w w' := by
  obtain ⟨k1, hk1, hs1, hS1, hb1⟩ := cut_to (P := Try.prog) 22 5 Try.underlying22 Try.info_u8 h1 200 (by omega)
  obtain ⟨k2, hk2, hs2, hS2, hb2⟩ := cut_to (P := Try.prog) 22 5 Try.underlying22 Try.info_u8 h2 200 (by omega)
  have d0 : 0 ≤ m % 30 ∧ m % 30 < 30 := by omega
  obtain ⟨d1, d2⟩ := d0
  have hm : 0 < m ∨ m ≤ 0 := by omega
  have hll1 : (l1 : Int) ≤ 9223372036854775807 := by obtain ⟨_, _, e, _, h, h', _⟩ := h1; simp at e; unfold maxLen at h'; omega
  have hll2 : (l2 : Int) ≤ 9223372036854775807 := by obtain ⟨_, _, e, _, h, h', _⟩ := h2; simp at e; unfold maxLen at h'; omega
  have hv1 : 0 < (xs.take k1).length → ∀ q, (Value.slice A1 k1 c1).ownBlock = some q → q < w.heap.size := fun h0 q hq => h1.lt (by simp at h0; omega) q (by rw [← hb1]; exact hq)
  have hv2 : 0 < (ys.take k2).length → ∀ q, (Value.slice A2 k2 c2).ownBlock = some q → q < w.heap.size := fun h0 q hq => h2.lt (by simp at h0; omega) q (by rw [← hb2]; exact hq)
  replace hS1 := Lib.hid hS1
  replace hS2 := Lib.hid hS2
  replace hk1 := Lib.hid hk1
  replace hk2 := Lib.hid hk2
  replace hb1 := Lib.hid hb1
  replace hb2 := Lib.hid hb2
  clear h1 h2
  rcases hm with hm | hm
  all_goals
    go_enter Try.func5, Try.ntmps5
    go_wp2_with fail
    (try generalize hN : (1 + m % 30 : Int) = N)
    refine (new_any _ w (by omega) (by omega)).mono ?_
    rintro e w1 ⟨g1, rfl, hW1, hC1, hg1⟩
    go_wp2_with fail
    refine (new_any _ w1 (by omega) (by omega)).mono ?_
    rintro e w2 ⟨g2, rfl, hV2, hC2, hg2⟩
    have hA2 : Apart g1 none g2 none := by
      have := hW1.lt.1
      intro x hx hy; simp at hx hy; omega
    have hY1 : Young w g1 none := by intro x hx; simp at hx; omega
    have hY2 : Young w g2 none := by have := hC1.size; intro x hx; simp at hx; omega
    have hW2 := hW1.chg hC2 (by simp) (by simp)
    replace hC2 := hC1.trans hC2
    clear hW1 hC1
    go_wp2_with fail
    refine (alive_any _).mono ?_
    rintro e w3 ⟨rfl, hC3⟩
    have hW3 := hW2.chg hC3 (by simp) (by simp)
    have hV3 := hV2.chg hC3 (by simp) (by simp)
    replace hC3 := hC2.trans hC3
    clear hW2 hV2 hC2
    go_wp2_with fail
    go_quiet (fail)
    generalize (if (200 : Int) < (l1 : Int) then (200 : Int) else (l1 : Int)) = z1
    generalize (if (200 : Int) < (l2 : Int) then (200 : Int) else (l2 : Int)) = z2
    go_wp2_with fail
    (first | generalize hw4 : World.drewN _ _ = w4 | generalize hw4 : World.drew _ = w4)
    have hC4 : Chg [] w3 w4 := by subst hw4; first | exact (Chg.refl _ _).drewN _ | exact (Chg.refl _ _).drew
    clear hw4
    have hW4 := hW3.chg hC4 (by simp) (by simp)
    have hV4 := hV3.chg hC4 (by simp) (by simp)
    replace hC4 := hC3.trans hC4
    clear hW3 hV3 hC3
    have hS1' := hS1.out.chg hC4 (by simp)
    rw [Nat.mul_one, cellsOf_take] at hS1'
    have hS2' := hS2.out
    rw [Nat.mul_one, cellsOf_take] at hS2'
    have hk2' : (ys.take k2).length ≤ 200 := by have := hS2'.len; have := hk2.out; simp at *; omega
    have hk1' : (xs.take k1).length ≤ 200 := by have := hS1'.len; have := hk1.out; simp at *; omega
    refine (put_h w w4 g1 none _ _ _ _ hW4 _ _ _ hS1' hv1 hC4 hY1 (by omega)).mono ?_
    rintro e w5 ⟨rfl, r5, h5, b5, t5, hW5, hb5, ht5, hr5, hC5, hY5, hC5'⟩
    have hA5 := hA2.step hV4 hr5
    have hV5 := hV4.keep hC5 hA2.symm
    clear hW4 hV4 hC5 hC4 hb5 ht5 hA2 hY1 hr5
    go_wp2_with fail
    refine (cut_any g1 w5 hW5).mono ?_
    rintro e w6 ⟨rfl, hW6, hC6⟩
    have hC6' := hC6.mono (S1 := g1 :: r5.toList) (by simp)
    have hV6 := hV5.keep hC6' hA5.symm
    have hC6 := hY5.chg hC5' hC6'
    clear hC5' hV5 hC6'
    go_wp2_with fail
    refine (put_h w w6 g1 r5 _ _ _ _ hW6 _ _ _ (hS2'.chg hC6 (by simp)) hv2 hC6 hY5 (by omega)).mono ?_
    rintro e w7 ⟨rfl, r7, h7, b7, t7, hW7, hb7, ht7, hr7, hC7, hY7, hC7'⟩
    have hA7 := hA5.step hV6 hr7
    have hV7 := hV6.keep hC7 hA5.symm
    clear hW6 hV6 hC7 hC6 hA5 hY5 hr7
    go_wp2_with fail
    refine (put_h w w7 g2 none _ _ _ _ hV7 _ _ _ (hS2'.chg hC7' (by simp)) hv2 hC7' hY2 (by omega)).mono ?_
    rintro e w8 ⟨rfl, r8, h8, b8, t8, hV8, hb8, ht8, hr8, hC8, hY8, hC8'⟩
    have hW8 := hW7.keep hC8 hA7
    have hbb : b7 = b8 := by rw [hb7.out, hb8.out]
    have htt : t7 = t8 := by rw [ht7.out, ht8.out]
    subst hbb htt
    clear hW7 hV7 hC8 hC7' hb7 hb8 ht7 ht8 hA7 hr8
    have hcb1 : ∀ w', Chg [] w8 w' → Calls Try.prog 12 #[.pointer (some ⟨g1, 0, none⟩)] w' _ := fun w' hc => bytes_str w' g1 (hW8.chg hc (by simp) (by simp)) _ rfl _ rfl
    have hcb2 : ∀ w', Chg [] w8 w' → Calls Try.prog 12 #[.pointer (some ⟨g2, 0, none⟩)] w' _ := fun w' hc => bytes_str w' g2 (hV8.chg hc (by simp) (by simp)) _ rfl _ rfl
    have hct1 : ∀ w', Chg [] w8 w' → Calls Try.prog 13 #[.pointer (some ⟨g1, 0, none⟩)] w' _ := fun w' hc => total_any g1 w' (hW8.chg hc (by simp) (by simp))
    have hct2 : ∀ w', Chg [] w8 w' → Calls Try.prog 13 #[.pointer (some ⟨g2, 0, none⟩)] w' _ := fun w' hc => total_any g2 w' (hV8.chg hc (by simp) (by simp))
    replace hC8' := Lib.hid hC8'
    replace hcb1 := Lib.hid hcb1
    replace hcb2 := Lib.hid hcb2
    replace hct1 := Lib.hid hct1
    replace hct2 := Lib.hid hct2
    clear hW8 hV8 hY7 hY8 hY2 hS1' hS2'
    go_wp2_with fail
    go_region_with (first
      | (go_at_call_of 12 (Value.pointer (some ⟨g1, 0, none⟩)); refine (hcb1.out _ (by exact (Chg.refl _ _).drew)).mono ?_; rintro e w9 ⟨A9, c9, rfl, hs9, ho9, hC9⟩; have hD9 := Lib.hid ((Chg.refl [] w8).drew.trans hC9); replace ho9 := Lib.hid ho9; clear hC9)
      | (go_at_call_of 12 (Value.pointer (some ⟨g2, 0, none⟩)); refine (hcb2.out _ (by exact hD9.out)).mono ?_; rintro e w10 ⟨A10, c10, rfl, hs10, ho10, hC10⟩; have hD10 := Lib.hid (hD9.out.trans hC10); have hs9' := sl_string (P := Try.prog) (own_sl (own_chg ho9.out hC10 (by simp))) 22 5 9 Try.underlying22 Try.underlying5 Try.underlying9; clear hC10 ho10)
      | (go_at_call_of 13 (Value.pointer (some ⟨g1, 0, none⟩)); refine (hct1.out _ (by exact hD10.out)).mono ?_; rintro e w' ⟨rfl, rfl⟩)
      | (go_at_call_of 13 (Value.pointer (some ⟨g2, 0, none⟩)); refine (hct2.out _ (by exact hD10.out)).mono ?_; rintro e w' ⟨rfl, rfl⟩))
    all_goals go_wp2
    all_goals go_ret
    all_goals exact ⟨rfl, (hC8'.out.trans hD10.out).below⟩
end Go.Proofs.Ytjfbbobaghdocaa
