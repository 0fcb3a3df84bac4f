/- Two scripts with a line's end between, in plain Lean. No condition. -/
import Derived.Test.YtakcolililbkjaaPlShift
import Derived.Test.YtakcolililbkjaaTclIn
set_option linter.unusedVariables false
set_option linter.unusedSimpArgs false
namespace Go.Proofs.Ytakcolililbkjaa
namespace Plan
open Tcl
theorem shC_shift (n : Nat) (c : Cmd) : shC n c = shiftC n c := by
  unfold shC shiftC
  congr 1
  · exact Nat.add_comm _ _
  · exact List.map_congr_left fun w _ => by unfold shW shiftW; rw [Nat.add_comm]
theorem shiftC_zero (c : Cmd) : shiftC 0 c = c := by
  obtain ⟨a, ws⟩ := c
  unfold shiftC
  simp only [Nat.add_zero]
  congr 1
  exact (List.map_congr_left fun w _ => by unfold shiftW; simp).trans (List.map_id ws)
theorem parseAt_zero (t : List UInt8) : parseAt t 0 = match parse t with | .error e => .error (if e.2 = 0 then 0 else e.1, e.2) | .ok cs => .ok cs := by
  unfold parseAt
  cases parse t with
  | error e => simp
  | ok cs => exact congrArg Except.ok ((List.map_congr_left fun c _ => shiftC_zero c).trans (List.map_id cs))
theorem plan_ok {s : List UInt8} {a : List Op} (h : planOf s = .ok a) : ∃ cs, parse s = .ok cs ∧ cmdsGo (fun t b => script s.length t b true) false cs [] = .ok a := by
  unfold planOf at h
  simp only [script] at h
  rw [parseAt_zero] at h
  cases hp : parse s with
  | error e => rw [hp] at h; cases h
  | ok cs => rw [hp] at h; exact ⟨cs, rfl, h⟩
theorem cmds_len {rec : List UInt8 → Nat → Except Bad (List Op)} {body : Bool} : ∀ {cs : List Cmd} {acc a : List Op}, cmdsGo rec body cs acc = .ok a → a.length = acc.length + cs.length := by
  intro cs
  induction cs with
  | nil => intro acc a h; simp only [cmdsGo] at h; cases h; simp
  | cons c r ih =>
    intro acc a h
    simp only [cmdsGo] at h
    split at h
    · cases h
    · rw [ih h]; simp; omega
theorem plan_joins {s t : List UInt8} {a b : List Op} (hl : s.length + 1 + t.length ≤ 16777216) (hs : planOf s = .ok a) (ht : planOf t = .ok b) : planOf (s ++ 10 :: t) = .ok (a ++ shOs (s.length + 1) b) := by
  obtain ⟨A, hA, h1⟩ := plan_ok hs
  obtain ⟨B, hB, h2⟩ := plan_ok ht
  have gA : parseGo s 0 [] = .ok A := by unfold parse at hA; rw [if_neg (by omega)] at hA; exact hA
  have gB : parseGo t 0 [] = .ok B := by unfold parse at hB; rw [if_neg (by omega)] at hB; exact hB
  have hJ := joins gA gB
  have hlen : (s ++ 10 :: t).length = s.length + 1 + t.length := by simp; omega
  have hP : parse (s ++ 10 :: t) = .ok (A ++ B.map (shiftC (s.length + 1))) := by
    unfold parse
    rw [if_neg (by omega), hJ]
    congr 2
    exact List.map_congr_left fun c _ => shC_shift _ c
  unfold planOf
  simp only [script]
  rw [parseAt_zero, hP]
  simp only
  rw [cmdsGo_append]
  have rA := parse_row hA
  have rB := parse_row hB
  have e1 : cmdsGo (fun u b => script (s ++ 10 :: t).length u b true) false A [] = cmdsGo (fun u b => script s.length u b true) false A [] :=
    cmdsGo_ag (L := s.length) (fun u b hu => script_fuel _ _ u b true (by omega) hu) false A [] (fun c hc w hw hk => by have := ((rA.1 c hc).2.2 w hw).2 hk; omega)
  have e2 : cmdsGo (fun u b => script (s ++ 10 :: t).length u b true) false B [] = cmdsGo (fun u b => script t.length u b true) false B [] :=
    cmdsGo_ag (L := t.length) (fun u b hu => script_fuel _ _ u b true (by omega) hu) false B [] (fun c hc w hw hk => by have := ((rB.1 c hc).2.2 w hw).2 hk; omega)
  rw [e1, h1]
  simp only
  rw [cmdsGo_acc]
  have h3 := cmdsGo_sh (rec := fun u b => script (s ++ 10 :: t).length u b true) (d := s.length + 1) (fun u b => script_sh _ _ u b true) false B []
  rw [show shOs (s.length + 1) [] = [] by rw [shOs]] at h3
  rw [h3, e2, h2]
  rfl
end Plan
end Go.Proofs.Ytakcolililbkjaa
