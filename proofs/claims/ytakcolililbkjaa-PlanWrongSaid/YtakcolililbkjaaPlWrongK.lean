/- Where a script is wrong; how many operations it has: plain Lean. No condition. -/
import Derived.Test.YtakcolililbkjaaPlJoinK
import Derived.Test.YtakcolililbkjaaTclErr
set_option linter.unusedVariables false
set_option linter.unusedSimpArgs false
namespace Go.Proofs.Ytakcolililbkjaa
namespace Plan
open Tcl
/-- Words that end at `M` at most. -/
def Wm (M : Nat) (ws : List Word) : Prop := ∀ w ∈ ws, w.at_ ≤ M ∧ (w.kind = 2 → w.at_ + 1 + (openT w).length ≤ M)
theorem Wm.tail {M : Nat} {w : Word} {r : List Word} (h : Wm M (w :: r)) : Wm M r := fun x hx => h x (by simp [hx])
def RecE (rec : List UInt8 → Nat → Except Bad (List Op)) (M : Nat) : Prop := ∀ u b p q, rec u b = .error (p, q) → b + u.length ≤ M → p ≤ M
theorem parseAt_wm {t : List UInt8} {b M : Nat} {cs : List Cmd} (h : parseAt t b = .ok cs) (hb : b + t.length ≤ M) : ∀ c ∈ cs, c.at_ ≤ M ∧ Wm M c.words := by
  unfold parseAt at h
  split at h
  · cases h
  · rename_i l hp
    cases h
    intro c hc
    obtain ⟨c0, k4, rfl⟩ := List.mem_map.1 hc
    obtain ⟨h1, -, h3⟩ := (parse_row hp).1 c0 k4
    refine ⟨by simp only [shiftC]; omega, fun w hw => ?_⟩
    obtain ⟨w1, k5, rfl⟩ := List.mem_map.1 hw
    have hin := h3 w1 k5
    have i1 := hin.1
    refine ⟨by simp only [shiftW]; omega, fun hk2 => ?_⟩
    have i2 := hin.2 hk2
    rw [openT_sh]
    simp only [shiftW]
    omega
theorem parseAt_err {t : List UInt8} {b M p q : Nat} (h : parseAt t b = .error (p, q)) (hb : b + t.length ≤ M) : p ≤ M := by
  unfold parseAt at h
  split at h
  · rename_i e he
    have := parse_err he
    cases h
    split <;> omega
  · cases h
theorem headA_wm {M : Nat} {f : Word} {l : List Word} (hf : f.at_ ≤ M) (hl : Wm M l) : (∀ p q, headA f l = .error (p, q) → p ≤ M) ∧ ∀ k w l2, headA f l = .ok (k, w, l2) → Wm M l2 := by
  unfold headA
  split
  · exact ⟨fun p q h => (nomatch h), fun k w l2 h => by cases h; exact hl⟩
  · split
    · split
      · exact ⟨fun p q h => by cases h; exact hf, fun k w l2 h => (nomatch h)⟩
      · exact ⟨fun p q h => (nomatch h), fun k w l2 h => by cases h; exact hl.tail⟩
    · exact ⟨fun p q h => (nomatch h), fun k w l2 h => by cases h; exact hl⟩
theorem bodyA_wm {rec : List UInt8 → Nat → Except Bad (List Op)} {M : Nat} (hr : RecE rec M) {l : List Word} (hl : Wm M l) : (∀ p q, bodyA rec l = .error (p, q) → p ≤ M) ∧ ∀ b l2, bodyA rec l = .ok (b, l2) → Wm M l2 := by
  unfold bodyA
  split
  · exact ⟨fun p q h => (nomatch h), fun k l2 h => by cases h; exact hl⟩
  · rename_i w r
    split
    · rename_i hk
      split
      · rename_i e he
        refine ⟨fun p q h => ?_, fun k l2 h => (nomatch h)⟩
        cases h
        exact hr _ _ _ _ he ((hl w (by simp)).2 hk)
      · exact ⟨fun p q h => (nomatch h), fun k l2 h => by cases h; exact hl.tail⟩
    · exact ⟨fun p q h => (nomatch h), fun k l2 h => by cases h; exact hl⟩
theorem armsGo_wm {rec : List UInt8 → Nat → Except Bad (List Op)} {M : Nat} (hr : RecE rec M) : ∀ (n : Nat) (l : List Word) (acc : List Arm), Wm M l → ∀ p q, armsGo rec n l acc = .error (p, q) → p ≤ M := by
  intro n
  induction n with
  | zero =>
    intro l acc hl p q h
    cases l with
    | nil => simp only [armsGo] at h; cases h
    | cons f l => simp only [armsGo] at h; cases h; exact Nat.zero_le _
  | succ n ih =>
    intro l acc hl p q h
    cases l with
    | nil => simp only [armsGo] at h; cases h
    | cons f l =>
      simp only [armsGo] at h
      have hf := (hl f (by simp)).1
      have hh := headA_wm hf hl.tail
      split at h
      · cases h; exact hf
      · split at h
        · rename_i b hb; cases h; exact hh.1 _ _ hb
        · rename_i k pt l2 hk
          have hl2 := hh.2 _ _ _ hk
          have hb := bodyA_wm hr hl2
          split at h
          · rename_i b hb1; cases h; exact hb.1 _ _ hb1
          · rename_i body l3 hb1
            exact ih _ _ (hb.2 _ _ hb1) _ _ h
theorem argsA_wm {M : Nat} {l : List Word} (hl : Wm M l) : (∀ p q, argsA l = .error (p, q) → p ≤ M) ∧ ∀ ws, argsA l = .ok ws → Wm M ws := by
  unfold argsA
  split
  · rename_i a
    split
    · rename_i hk
      have hb := (hl a (by simp)).2 hk
      split
      · rename_i e he
        refine ⟨fun p q h => ?_, fun ws h => (nomatch h)⟩
        cases h
        exact parseAt_err he (by omega)
      · rename_i cs hcs
        refine ⟨fun p q h => (nomatch h), fun ws h => ?_⟩
        cases h
        intro w hw
        obtain ⟨xs, k1, k2⟩ := List.mem_flatten.1 hw
        obtain ⟨c, k3, rfl⟩ := List.mem_map.1 k1
        exact (parseAt_wm hcs (by omega) c k3).2 w k2
    · exact ⟨fun p q h => (nomatch h), fun ws h => by cases h; exact hl⟩
  · exact ⟨fun p q h => (nomatch h), fun ws h => by cases h; exact hl⟩
theorem cmdOp_wm {rec : List UInt8 → Nat → Except Bad (List Op)} {M : Nat} (hr : RecE rec M) {body : Bool} {c : Cmd} (hc : c.at_ ≤ M) (hl : Wm M c.words) : ∀ p q, cmdOp rec body c = .error (p, q) → p ≤ M := by
  intro p q h
  unfold cmdOp at h
  split at h
  · cases h; exact Nat.zero_le _
  · rename_i w0 args hws
    rw [hws] at hl
    split at h
    · cases h; exact (hl w0 (by simp)).1
    · split at h
      · cases h; exact hc
      · split at h
        · cases h; exact hc
        · split at h
          · cases h; exact hc
          · split at h
            · cases h
            · have ha := argsA_wm hl.tail
              split at h
              · rename_i b hb; cases h; exact ha.1 _ _ hb
              · rename_i ws hws2
                split at h
                · rename_i b hb; cases h; exact armsGo_wm hr _ _ _ (ha.2 _ hws2) _ _ hb
                · cases h; exact hc
                · cases h
theorem cmdsGo_wm {rec : List UInt8 → Nat → Except Bad (List Op)} {M : Nat} (hr : RecE rec M) {body : Bool} : ∀ {cs : List Cmd} {acc : List Op}, (∀ c ∈ cs, c.at_ ≤ M ∧ Wm M c.words) → ∀ p q, cmdsGo rec body cs acc = .error (p, q) → p ≤ M := by
  intro cs
  induction cs with
  | nil => intro acc _ p q h; simp only [cmdsGo] at h; cases h
  | cons c r ih =>
    intro acc hc p q h
    simp only [cmdsGo] at h
    have := hc c (by simp)
    split at h
    · rename_i b hb; cases h; exact cmdOp_wm hr this.1 this.2 _ _ hb
    · exact ih (fun x hx => hc x (by simp [hx])) _ _ h
theorem script_wm (M : Nat) : ∀ (n : Nat) (body : Bool) (t : List UInt8) (b p q : Nat), script n t b body = .error (p, q) → b + t.length ≤ M → p ≤ M := by
  intro n
  induction n with
  | zero => intro body t b p q h _; simp only [script] at h; cases h; exact Nat.zero_le _
  | succ n ih =>
    intro body t b p q h hb
    simp only [script] at h
    split at h
    · rename_i e he; cases h; exact parseAt_err he hb
    · rename_i cs hcs
      exact cmdsGo_wm (fun u b p q h hb => ih true u b p q h hb) (parseAt_wm hcs hb) _ _ h
/-- Where a script is wrong is in it. -/
theorem plan_err {s : List UInt8} {p q : Nat} (h : planOf s = .error (p, q)) : p ≤ s.length := script_wm s.length _ _ _ _ _ _ h (by omega)
end Plan
end Go.Proofs.Ytakcolililbkjaa
