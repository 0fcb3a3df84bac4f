/- Where a text is wrong is in it, in plain Lean. No program in sight. Conditions: as they state. -/
import Derived.Test.YtakcolililbkjaaTclEqs
set_option linter.unusedVariables false
set_option linter.unusedSimpArgs false
namespace Go.Proofs.Ytakcolililbkjaa
namespace Tcl
theorem braced_err (s : List UInt8) (f : Nat) (hf : f ≤ s.length) : ∀ (k i d : Nat) (b : Bad), s.length - i ≤ k → braced s f i d = .error b → b.1 ≤ s.length := by
  intro k
  induction k with
  | zero =>
    intro i d b hk h
    rw [braced_none (List.getElem?_eq_none (by omega))] at h; cases h; exact hf
  | succ k ih =>
    intro i d b hk h
    cases hc : s[i]? with
    | none => rw [braced_none hc] at h; cases h; exact hf
    | some c =>
      have hl := lt_of_some hc
      rw [braced_some hc] at h
      split at h
      · exact ih _ _ _ (by omega) h
      · split at h
        · split at h
          · cases h; exact Nat.le_of_lt hl
          · exact ih _ _ _ (by omega) h
        · split at h
          · split at h
            · exact ih _ _ _ (by omega) h
            · cases h
          · exact ih _ _ _ (by omega) h
theorem parts_err (stop : UInt8 → Bool) (s : List UInt8) (f : Option Nat) (hf : ∀ x, f = some x → x ≤ s.length) : ∀ (k i : Nat) (l : List Part) (t : List UInt8) (b : Bad), s.length - i ≤ k → partsGo stop s f i l t = .error b → b.1 ≤ s.length := by
  intro k
  induction k with
  | zero =>
    intro i l t b hk h
    rw [parts_none (List.getElem?_eq_none (by omega))] at h; cases h
  | succ k ih =>
    intro i l t b hk h
    cases hc : s[i]? with
    | none => rw [parts_none hc] at h; cases h
    | some c =>
      have hl := lt_of_some hc
      rw [parts_some hc] at h
      split at h
      · cases h
      · split at h
        · cases h; exact Nat.le_of_lt hl
        · split at h
          · split at h
            · cases h
              cases f with
              | none => exact Nat.le_of_lt hl
              | some x => exact hf x rfl
            · split at h
              · exact ih _ _ _ _ (by omega) h
              · cases h; exact Nat.zero_le _
          · split at h
            · split at h
              · cases h; exact Nat.le_of_lt hl
              · split at h
                · exact ih _ _ _ _ (by omega) h
                · exact ih _ _ _ _ (by omega) h
            · exact ih _ _ _ _ (by omega) h
theorem behind_err {s : List UInt8} {j : Nat} {b : Bad} (h : behind s j = .error b) : b.1 ≤ s.length := by
  unfold behind at h
  split at h
  · rename_i c hc
    have := lt_of_some hc
    split at h
    · cases h
    · cases h; exact Nat.le_of_lt this
  · cases h
theorem word_err {s : List UInt8} {i : Nat} {c : UInt8} {b : Bad} (hi : i < s.length) (h : word s i c = .error b) : b.1 ≤ s.length := by
  unfold word at h
  split at h
  · split at h
    · rename_i b' hb
      cases h
      exact braced_err s i (Nat.le_of_lt hi) _ _ _ _ (Nat.le_refl _) hb
    · split at h
      · rename_i b' hb; cases h; exact behind_err hb
      · cases h
  · split at h
    · split at h
      · rename_i b' hb
        cases h
        exact parts_err _ s _ (fun x hx => by cases hx; exact Nat.le_of_lt hi) _ _ _ _ _ (Nat.le_refl _) hb
      · split at h
        · cases h; exact Nat.le_of_lt hi
        · split at h
          · rename_i b' hb; cases h; exact behind_err hb
          · cases h
    · split at h
      · rename_i b' hb
        cases h
        exact parts_err _ s _ (fun x hx => by cases hx) _ _ _ _ _ (Nat.le_refl _) hb
      · cases h
theorem command_err (s : List UInt8) : ∀ (k i : Nat) (ws : List Word) (b : Bad), s.length - i ≤ k → command s i ws = .error b → b.1 ≤ s.length := by
  intro k
  induction k with
  | zero =>
    intro i ws b hk h
    rw [command_none (List.getElem?_eq_none (by omega))] at h; cases h
  | succ k ih =>
    intro i ws b hk h
    cases hc : s[i]? with
    | none => rw [command_none hc] at h; cases h
    | some c =>
      have hl := lt_of_some hc
      rw [command_some hc] at h
      split at h
      · cases h
      · split at h
        · exact ih _ _ _ (by omega) h
        · split at h
          · rename_i b' hb; cases h; exact word_err hl hb
          · split at h
            · exact ih _ _ _ (by omega) h
            · cases h; exact Nat.zero_le _
theorem parseGo_err (s : List UInt8) : ∀ (k i : Nat) (l : List Cmd) (b : Bad), s.length - i ≤ k → parseGo s i l = .error b → b.1 ≤ s.length := by
  intro k
  induction k with
  | zero =>
    intro i l b hk h
    rw [parse_none (List.getElem?_eq_none (by omega))] at h; cases h
  | succ k ih =>
    intro i l b hk h
    cases hc : s[i]? with
    | none => rw [parse_none hc] at h; cases h
    | some c =>
      have hl := lt_of_some hc
      rw [parse_some hc] at h
      split at h
      · exact ih _ _ _ (by omega) h
      · split at h
        · split at h
          · exact ih _ _ _ (by omega) h
          · cases h; exact Nat.zero_le _
        · split at h
          · rename_i b' hb; cases h; exact command_err s _ _ _ _ (Nat.le_refl _) hb
          · split at h
            · exact ih _ _ _ (by omega) h
            · cases h; exact Nat.zero_le _
/-- An error's place is in the text. -/
theorem parse_err {s : List UInt8} {b : Bad} (h : parse s = .error b) : b.1 ≤ s.length := by
  unfold parse at h
  split at h
  · cases h; exact Nat.zero_le _
  · exact parseGo_err s _ _ _ _ (Nat.le_refl _) h
end Tcl
end Go.Proofs.Ytakcolililbkjaa
