/- Contracts of package plan's Parse and Count. Conditions: as they state. -/
import Derived.Test.YtakcolililbkjaaPlScript
set_option linter.unusedVariables false
set_option linter.unusedSimpArgs false
namespace Go.Proofs.Ytakcolililbkjaa
namespace Pl
open Go.RowKit Tcl Plan
theorem script_any (M : Nat) (hM : M ≤ 1099511627776) : ∀ (n : Nat) (t : List UInt8) (b : Nat) (body : Bool) (w : World), t.length < n → t.length ≤ 16777216 → b + t.length ≤ M →
    Calls Try.prog 16 #[.string (bstr t), .int .i64 b, .bool body] w (ScEnd w (Plan.script n t b body)) := by
  intro n
  induction n with
  | zero => intro t b body w h; omega
  | succ n ih =>
    intro t b body w h1 h2 h3
    have h := script_step (fun t b => Plan.script n t b true) t b body M (fun W u b hu hb => ih u b true W (by omega) (by omega) hb) h2 h3 hM w
    have e : scrA (fun t b => Plan.script n t b true) body (parseAt t b) = Plan.script (n + 1) t b body := by
      unfold scrA
      simp only [Plan.script]
      cases parseAt t b <;> rfl
    rw [e] at h
    exact h
/-- What `Parse` tells. -/
def PlEnd (w : World) (s : List UInt8) (e : Ending) (w' : World) : Prop :=
  Chg [] w w' ∧ ((∃ l A c, planOf s = .ok l ∧ e = .returned (.tuple #[.slice A (List.length l) c, .int .i64 0, .int .i64 0]) ∧ OpsV w' (fun q => w.heap.size ≤ q) (.slice A (List.length l) c) l)
    ∨ (∃ p q : Nat, planOf s = .error (p, q) ∧ q ≠ 0 ∧ e = .returned (.tuple #[.slice none 0 0, .int .i64 p, .int .i64 q])))
set_option maxRecDepth 100000 in
set_option maxHeartbeats 8000000 in
theorem plan_any (w : World) (s : List UInt8) (hs : s.length ≤ 16777216) : Calls Try.prog 7 #[.string (bstr s)] w (PlEnd w s) := by
  unfold PlEnd
  have h := script_any 1099511627776 (by decide) (s.length + 1) s 0 false w (by omega) hs (by omega)
  have h' : Calls Try.prog 16 #[.string (bstr s), .int .i64 0, .bool false] w (ScEnd w (planOf s)) := h
  obtain ⟨Z, hZ⟩ : ∃ Z, bstr s = Z := ⟨_, rfl⟩
  rw [hZ] at h' ⊢
  replace h' := Lib.hid h'
  clear h hZ
  go_enter Try.func7, Try.ntmps7
  go_wp2_with fail
  refine (h'.out).mono ?_
  rintro e w1 ⟨hC1, ⟨l, A, c, hr, rfl, hOp⟩ | ⟨p, q, hr, hq, rfl⟩⟩
  · have hc2 := Lib.hid ((Chg.refl [] w1).alloc (.cells #[.int .i64 0, .int .i64 0] 55))
    replace hC1 := Lib.hid hC1
    replace hOp := Lib.hid hOp
    replace hr := Lib.hid hr
    clear h'
    go_wp2_with fail
    go_quiet (fail)
    go_wp2_with fail
    go_ret3
    exact ⟨((hC1.out.trans hc2.out).drewN _), .inl ⟨l, A, c, hr.out, rfl, OpsV.chg hOp.out (hc2.out.drewN _) (fun _ _ _ => by simp)⟩⟩
  · have hc2 := Lib.hid ((Chg.refl [] w1).alloc (.cells #[.int .i64 p, .int .i64 q] 55))
    replace hC1 := Lib.hid hC1
    replace hr := Lib.hid hr
    replace hq := Lib.hid hq
    clear h'
    go_wp2_with fail
    go_quiet (fail)
    go_wp2_with fail
    go_ret3
    exact ⟨((hC1.out.trans hc2.out).drewN _), .inr ⟨p, q, hr.out, hq.out, rfl⟩⟩
end Pl
end Go.Proofs.Ytakcolililbkjaa
