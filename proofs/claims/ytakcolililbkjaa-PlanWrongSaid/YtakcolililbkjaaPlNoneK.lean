/- Where no known name stands: plain Lean. No condition. -/
import Derived.Test.YtakcolililbkjaaPlBodyK
set_option linter.unusedVariables false
set_option linter.unusedSimpArgs false
namespace Go.Proofs.Ytakcolililbkjaa
namespace Plan
open Tcl
theorem lo_braced {s : List UInt8} {f : Nat} : ∀ (k i d p q : Nat), s.length - i ≤ k → braced s f i d = .error (p, q) → q ≤ 7 := by
  intro k
  induction k with
  | zero =>
    intro i d p q hk hb
    rw [braced_none (List.getElem?_eq_none (by omega))] at hb; cases hb; decide
  | succ k ih =>
    intro i d p q hk hb
    cases hc : s[i]? with
    | none => rw [braced_none hc] at hb; cases hb; decide
    | some c =>
      have hi := lt_of_some hc
      rw [braced_some hc] at hb
      split at hb
      · exact ih _ _ _ _ (by omega) hb
      · split at hb
        · split at hb
          · cases hb; decide
          · exact ih _ _ _ _ (by omega) hb
        · split at hb
          · split at hb
            · exact ih _ _ _ _ (by omega) hb
            · cases hb
          · exact ih _ _ _ _ (by omega) hb
theorem lo_parts {stop : UInt8 → Bool} {s : List UInt8} {f : Option Nat} : ∀ (k i : Nat) (l : List Part) (t : List UInt8) (p q : Nat), s.length - i ≤ k → partsGo stop s f i l t = .error (p, q) → q ≤ 7 := by
  intro k
  induction k with
  | zero =>
    intro i l t p q hk hb
    rw [parts_none (List.getElem?_eq_none (by omega))] at hb; cases hb
  | succ k ih =>
    intro i l t p q hk hb
    cases hc : s[i]? with
    | none => rw [parts_none hc] at hb; cases hb
    | some c =>
      have hi := lt_of_some hc
      rw [parts_some hc] at hb
      split at hb
      · cases hb
      · split at hb
        · cases hb; decide
        · split at hb
          · split at hb
            · cases hb; decide
            · split at hb
              · rename_i x j he hj; exact ih _ _ _ _ _ (by omega) hb
              · cases hb; decide
          · split at hb
            · split at hb
              · cases hb; decide
              · split at hb
                · exact ih _ _ _ _ _ (by omega) hb
                · exact ih _ _ _ _ _ (by omega) hb
            · exact ih _ _ _ _ _ (by omega) hb
theorem lo_word {s : List UInt8} {i : Nat} {c : UInt8} {p q : Nat} (h : word s i c = .error (p, q)) : q ≤ 7 := by
  have hbh : ∀ j p q, behind s j = .error (p, q) → q ≤ 7 := fun j p q h => by
    unfold behind at h
    split at h
    · split at h
      · cases h
      · cases h; decide
    · cases h
  unfold word at h
  split at h
  · split at h
    · rename_i b hb; cases h; exact lo_braced _ _ _ _ _ (Nat.le_refl _) hb
    · split at h
      · rename_i b hb; cases h; exact hbh _ _ _ hb
      · cases h
  · split at h
    · split at h
      · rename_i b hb; cases h; exact lo_parts _ _ _ _ _ _ (Nat.le_refl _) hb
      · split at h
        · cases h; decide
        · split at h
          · rename_i b hb; cases h; exact hbh _ _ _ hb
          · cases h
    · split at h
      · rename_i b hb; cases h; exact lo_parts _ _ _ _ _ _ (Nat.le_refl _) hb
      · cases h
theorem lo_command {s : List UInt8} : ∀ (k i : Nat) (ws : List Word) (p q : Nat), s.length - i ≤ k → command s i ws = .error (p, q) → q ≤ 7 := by
  intro k
  induction k with
  | zero =>
    intro i ws p q hk h
    rw [command_none (List.getElem?_eq_none (by omega))] at h; cases h
  | succ k ih =>
    intro i ws p q hk h
    cases hc : s[i]? with
    | none => rw [command_none hc] at h; cases h
    | some c =>
      have hi := lt_of_some hc
      rw [command_some hc] at h
      split at h
      · cases h
      · split at h
        · exact ih _ _ _ _ (by omega) h
        · split at h
          · rename_i b hb; cases h; exact lo_word hb
          · split at h
            · exact ih _ _ _ _ (by omega) h
            · cases h; decide
theorem lo_parse {s : List UInt8} : ∀ (k i : Nat) (l : List Cmd) (p q : Nat), s.length - i ≤ k → parseGo s i l = .error (p, q) → q ≤ 7 := by
  intro k
  induction k with
  | zero =>
    intro i l p q hk h
    rw [parse_none (List.getElem?_eq_none (by omega))] at h; cases h
  | succ k ih =>
    intro i l p q hk h
    cases hc : s[i]? with
    | none => rw [parse_none hc] at h; cases h
    | some c =>
      have hi := lt_of_some hc
      rw [parse_some hc] at h
      split at h
      · exact ih _ _ _ _ (by omega) h
      · split at h
        · split at h
          · exact ih _ _ _ _ (by omega) h
          · cases h; decide
        · split at h
          · rename_i b hb; cases h; exact lo_command _ _ _ _ _ (Nat.le_refl _) hb
          · split at h
            · exact ih _ _ _ _ (by omega) h
            · cases h; decide
theorem parse_lo {s : List UInt8} {p q : Nat} (h : parse s = .error (p, q)) : q ≤ 7 := by
  unfold parse at h
  split at h
  · cases h; decide
  · exact lo_parse _ _ _ _ _ (Nat.le_refl _) h
/-- A braced word's end is a brace. -/
theorem braced_end {s : List UInt8} {f : Nat} : ∀ (k i d j : Nat), s.length - i ≤ k → braced s f i d = .ok j → ∃ j', j = j' + 1 ∧ s[j']? = some 125 := by
  intro k
  induction k with
  | zero =>
    intro i d j hk hb
    rw [braced_none (List.getElem?_eq_none (by omega))] at hb; cases hb
  | succ k ih =>
    intro i d j hk hb
    cases hc : s[i]? with
    | none => rw [braced_none hc] at hb; cases hb
    | some c =>
      have hi := lt_of_some hc
      rw [braced_some hc] at hb
      split at hb
      · exact ih _ _ _ (by omega) hb
      · split at hb
        · split at hb
          · cases hb
          · exact ih _ _ _ (by omega) hb
        · split at hb
          · rename_i h125
            split at hb
            · exact ih _ _ _ (by omega) hb
            · cases hb; exact ⟨i, rfl, by rw [hc, h125]⟩
          · exact ih _ _ _ (by omega) hb
/-- Behind a braced word's text stands its brace. -/
def Brc (t : List UInt8) (w : Word) : Prop := w.kind = 2 → ∃ r, t.drop (w.at_ + 1) = openT w ++ 125 :: r
theorem word_brc {s : List UInt8} {i : Nat} {c : UInt8} {w : Word} {j : Nat} (hc : s[i]? = some c) (h : word s i c = .ok (w, j)) : Brc s w := by
  unfold word at h
  split at h
  · rename_i h123
    split at h
    · cases h
    · rename_i j' hb
      split at h
      · cases h
      · cases h
        intro _
        obtain ⟨e, he, h125⟩ := braced_end (s.length - i) i 0 j (Nat.le_refl _) hb
        rw [braced_some hc, if_neg (by rw [h123]; decide), if_pos h123, if_neg (by decide)] at hb
        have hbd := braced_bound s i (s.length - (i + 1)) (i + 1) (0 + 1) j (Nat.le_refl _) hb
        have ho : openT ⟨i, 2, if j = i + 2 then [] else [⟨false, sub s (i + 1) (j - 1)⟩]⟩ = sub s (i + 1) (j - 1) := by
          unfold openT
          simp only
          split
          · rename_i h2; rw [h2]; simp [sub]
          · simp
        rw [ho]
        refine ⟨s.drop j, ?_⟩
        subst he
        have hel := lt_of_some h125
        show s.drop (i + 1) = sub s (i + 1) (e + 1 - 1) ++ 125 :: s.drop (e + 1)
        rw [Nat.add_sub_cancel]
        have h1 : s = s.take e ++ 125 :: s.drop (e + 1) := by
          have := List.drop_eq_getElem_cons hel
          obtain ⟨_, h3⟩ := List.getElem?_eq_some_iff.1 h125
          rw [h3] at this
          rw [← this, List.take_append_drop]
        unfold sub
        conv => lhs; rw [h1]
        rw [List.drop_append_of_le_length (by simp; omega)]
  · split at h
    · split at h
      · cases h
      · split at h
        · cases h
        · split at h
          · cases h
          · cases h; intro h; simp at h
    · split at h
      · cases h
      · cases h; intro h; simp at h
end Plan
end Go.Proofs.Ytakcolililbkjaa
