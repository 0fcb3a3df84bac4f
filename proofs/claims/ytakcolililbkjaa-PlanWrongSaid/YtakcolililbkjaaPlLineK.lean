/- A line's end behind a script: plain Lean. No condition. -/
import Derived.Test.YtakcolililbkjaaPlErrK
import Derived.Test.YtakcolililbkjaaPlJoinK
set_option linter.unusedVariables false
set_option linter.unusedSimpArgs false
namespace Go.Proofs.Ytakcolililbkjaa
namespace Plan
open Tcl
theorem plan_same {s : List UInt8} {cs : List Cmd} (hp : parse s = .ok cs) (hq : parse (s ++ [10]) = .ok cs) : planOf (s ++ [10]) = planOf s := by
  unfold planOf
  simp only [script]
  rw [parseAt_zero, parseAt_zero, hp, hq]
  have hl : (s ++ [10]).length = s.length + 1 := by simp
  exact cmdsGo_ag (L := s.length) (fun u b hu => script_fuel _ _ u b true (by omega) hu) false cs [] (fun c hc w hw hk => by have := (((parse_row hp).1 c hc).2.2 w hw).2 hk; omega)
theorem plan_line {s : List UInt8} (hl : s.length + 1 ≤ 16777216) : (∀ l, planOf s = .ok l → planOf (s ++ [10]) = .ok l) ∧ ∀ p q, planOf s = .error (p, q) → q ≠ 5 → planOf (s ++ [10]) = .error (p, q) := by
  obtain ⟨h1, h2⟩ := parse_line hl
  cases hp : parse s with
  | ok cs =>
    have := plan_same hp (h1 cs hp)
    rw [this]
    exact ⟨fun l h => h, fun p q h _ => h⟩
  | error e =>
    obtain ⟨p0, q0⟩ := e
    have e1 : planOf s = .error (if q0 = 0 then 0 else p0, q0) := by
      unfold planOf
      simp only [script]
      rw [parseAt_zero, hp]
    rw [e1]
    refine ⟨fun l h => (nomatch h), fun p q h hq => ?_⟩
    cases h
    unfold planOf
    simp only [script]
    rw [parseAt_zero, h2 p0 q0 hp hq]
end Plan
end Go.Proofs.Ytakcolililbkjaa
