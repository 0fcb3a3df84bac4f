/- The document's examples of layer 17. No condition. -/
import Derived.Test.YtakcolililbkjaaPlCount
set_option linter.unusedVariables false
set_option linter.unusedSimpArgs false
namespace Go.Proofs.Ytakcolililbkjaa
namespace Pl
open Go.RowKit Tcl Plan
def exS : List UInt8 := [101, 120, 112, 101, 99, 116, 32, 123, 45, 101, 120, 97, 99, 116, 32, 34, 97, 34, 32, 123, 115, 101, 110, 100, 32, 98, 125, 32, 101, 111, 102, 125]
def exT : List UInt8 := [101, 120, 112, 95, 99, 111, 110, 116, 105, 110, 117, 101]
theorem ex_plan : planOf exS = .ok [.mk 3 0 [] [.mk 0 ⟨15, 1, [⟨false, [97]⟩]⟩ [.mk 2 20 [⟨25, 0, [⟨false, [98]⟩]⟩] []], .mk 3 ⟨0, 0, []⟩ []]] := by kernel_rfl
theorem ex_bad : planOf exT = .error (0, 9) := by kernel_rfl
theorem pl_ok {w : World} {s : List UInt8} {e : Ending} {w' : World} {l : List Plan.Op} (h : PlEnd w s e w') (hp : planOf s = .ok l) : Chg [] w w' ∧ ∃ A c, e = .returned (.tuple #[.slice A (List.length l) c, .int .i64 0, .int .i64 0]) ∧ OpsV w' (fun q => w.heap.size ≤ q) (.slice A (List.length l) c) l := by
  obtain ⟨hC, ⟨l', A, c, h1, h2, h3⟩ | ⟨p, q, h1, -⟩⟩ := h
  · rw [hp] at h1; cases h1; exact ⟨hC, A, c, h2, h3⟩
  · rw [hp] at h1; cases h1
theorem pl_bad {w : World} {s : List UInt8} {e : Ending} {w' : World} {p q : Nat} (h : PlEnd w s e w') (hp : planOf s = .error (p, q)) : Chg [] w w' ∧ q ≠ 0 ∧ e = .returned (.tuple #[.slice none 0 0, .int .i64 p, .int .i64 q]) := by
  obtain ⟨hC, ⟨l', A, c, h1, h2, h3⟩ | ⟨p, q, h1, h2, h3⟩⟩ := h
  · rw [hp] at h1; cases h1
  · rw [hp] at h1; cases h1; exact ⟨hC, h2, h3⟩
set_option maxRecDepth 100000 in
set_option maxHeartbeats 16000000 in
theorem alive_any (w : World) : Calls Try.prog 8 #[] w fun e w' => e = .returned (.bool true) ∧ Chg [] w w' := by
  have h1 := Lib.hid (fun w => plan_any w exS (by decide))
  have h2 := Lib.hid (fun w => plan_any w exT (by decide))
  go_enter Try.func8, Try.ntmps8
  go_wp2_with fail
  refine (h1.out w).mono ?_
  rintro e w1 k1
  obtain ⟨hC1, A, c, rfl, hO⟩ := pl_ok k1 ex_plan
  clear k1 h1
  simp only [List.length_singleton] at hO ⊢
  replace hO := Lib.hid hO
  replace hC1 := Lib.hid hC1
  go_wp2_with fail
  refine (h2.out w1).mono ?_
  rintro e w2 k2
  obtain ⟨hC2, -, rfl⟩ := pl_bad k2 ex_bad
  clear k2 h2
  obtain ⟨b0, o0, Aw, cw, Aa, ca, rfl, q0, q1, q2, q3, zs, hS, hA⟩ := ops_at (i := 0) (OpsV.chg hO.out hC2 (fun _ _ _ => by simp)) rfl rfl
  obtain ⟨b1, o1, Ap, cp, Ab, cb, rfl, u0, u1, u2, u3, u4, -, hB⟩ := arms_at (i := 0) hS hA rfl rfl
  obtain ⟨b1', o1', Ap', cp', Ab', cb', e1, v0, v1, v2, v3, v4, -, -⟩ := arms_at (i := 1) hS hA rfl rfl
  cases e1
  obtain ⟨b2, o2, Aw2, cw2, Aa2, ca2, rfl, x0, x1, x2, x3, -⟩ := ops_at (i := 0) hB rfl rfl
  simp only [Op.kind, Op.at_, Op.arms, Op.words, Arm.kind, Arm.body, List.length_cons, List.length_nil, Nat.zero_mul, Nat.one_mul, Nat.add_zero, Nat.zero_add, Nat.reduceAdd, Int.cast_ofNat_Int, Int.ofNat_eq_natCast] at q0 q3 u0 u4 v0 x0 x1
  have hC := Lib.hid (hC1.out.trans hC2)
  clear hC1 hC2 hO hS hA hB q1 q2 u1 u2 u3 v1 v2 v3 v4 x2 x3
  go_wp2_with fail
  go_ret
  exact ⟨rfl, hC.out⟩
end Pl
end Go.Proofs.Ytakcolililbkjaa
