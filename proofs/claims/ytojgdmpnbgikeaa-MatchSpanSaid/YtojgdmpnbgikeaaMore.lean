/- A branch more: the first hit is no later; where hits come from. Plain Lean, no program. No condition. -/
import Derived.Test.YtojgdmpnbgikeaaNew
import Derived.Test.YtojgdmpnbgikeaaFirst
set_option linter.unusedVariables false
set_option linter.unusedSimpArgs false
namespace Go.Proofs.Ytojgdmpnbgikeaa
namespace Mt
open Kmp Glob
theorem first_cases (M : Nat) (l : List Br) (b : List UInt8) : (firstOf M l b = none ∧ ∀ j, j ≤ b.length → hitOf M l (b.take j) = none) ∨
    ∃ k p, k ≤ b.length ∧ hitOf M l (b.take k) = some p ∧ (∀ j, j < k → hitOf M l (b.take j) = none) ∧ firstOf M l b = some (p.1, p.2, k) := by
  have key : ∀ m, (∀ j, j < m → hitOf M l (b.take j) = none) ∨ ∃ k p, k < m ∧ hitOf M l (b.take k) = some p ∧ ∀ j, j < k → hitOf M l (b.take j) = none := by
    intro m
    induction m with
    | zero => exact .inl fun j hj => by omega
    | succ m ih =>
      rcases ih with h | ⟨k, p, h1, h2, h3⟩
      · cases hm : hitOf M l (b.take m) with
        | none =>
          refine .inl fun j hj => ?_
          rcases Nat.lt_or_ge j m with h4 | h4
          · exact h j h4
          · obtain rfl : j = m := by omega
            exact hm
        | some p => exact .inr ⟨m, p, by omega, hm, h⟩
      · exact .inr ⟨k, p, by omega, h2, h3⟩
  rcases key (b.length + 1) with h | ⟨k, p, h1, h2, h3⟩
  · exact .inl ⟨first_none fun j hj => h j (by omega), fun j hj => h j (by omega)⟩
  · exact .inr ⟨k, p, by omega, h2, h3, first_hit (by omega) h3 h2⟩
theorem hit_snoc (M : Nat) (l : List Br) (x : Br) (T : List UInt8) : hitOf M (l ++ [x]) T = match hitOf M l T with | some p => some p | none => (fromOf M x T).map fun f => (l.length, f) := by
  induction l with
  | nil =>
    simp only [List.nil_append, hitOf]
    cases fromOf M x T <;> rfl
  | cons y l ih =>
    rw [List.cons_append, hitOf, hitOf]
    cases h : fromOf M y T with
    | some f => rfl
    | none =>
      rw [ih]
      cases hitOf M l T with
      | some p => rfl
      | none => cases fromOf M x T <;> rfl
theorem hit_lt {M : Nat} {l : List Br} {T : List UInt8} {p : Nat × Nat} (h : hitOf M l T = some p) : ∃ x, l[p.1]? = some x ∧ fromOf M x T = some p.2 := by
  induction l generalizing p with
  | nil => cases h
  | cons y l ih =>
    rw [hitOf] at h
    cases hf : fromOf M y T with
    | some f =>
      rw [hf] at h
      simp only [Option.some.injEq] at h
      subst h
      exact ⟨y, rfl, hf⟩
    | none =>
      rw [hf] at h
      simp only [Option.map_eq_some_iff] at h
      obtain ⟨q, h1, rfl⟩ := h
      obtain ⟨x, h2, h3⟩ := ih h1
      exact ⟨x, by simpa using h2, h3⟩
/-- With a branch more. -/
theorem more_cases (M : Nat) (l : List Br) (x : Br) (b : List UInt8) : (firstOf M (l ++ [x]) b = none ∧ firstOf M l b = none) ∨
    (∃ f t, firstOf M (l ++ [x]) b = some (l.length, f, t) ∧ (firstOf M l b = none ∨ ∃ i f' t', firstOf M l b = some (i, f', t') ∧ t < t')) ∨
    ∃ i f t, firstOf M (l ++ [x]) b = some (i, f, t) ∧ firstOf M l b = some (i, f, t) ∧ i < l.length := by
  rcases first_cases M (l ++ [x]) b with ⟨h1, h2⟩ | ⟨k, p, h1, h2, h3, h4⟩
  · refine .inl ⟨h1, first_none fun j hj => ?_⟩
    have := h2 j hj
    rw [hit_snoc] at this
    cases h : hitOf M l (b.take j) with
    | none => rfl
    | some q => rw [h] at this; cases this
  · have hlow : ∀ j, j < k → hitOf M l (b.take j) = none := fun j hj => by
      have := h3 j hj
      rw [hit_snoc] at this
      cases h : hitOf M l (b.take j) with
      | none => rfl
      | some q => rw [h] at this; cases this
    have hk := h2
    rw [hit_snoc] at hk
    cases h : hitOf M l (b.take k) with
    | some q =>
      rw [h] at hk
      simp only [Option.some.injEq] at hk
      subst hk
      obtain ⟨y, hy, -⟩ := hit_lt h
      exact .inr (.inr ⟨q.1, q.2, k, h4, first_hit h1 hlow h, (List.getElem?_eq_some_iff.1 hy).1⟩)
    | none =>
      rw [h] at hk
      simp only [Option.map_eq_some_iff] at hk
      obtain ⟨f, hf, rfl⟩ := hk
      refine .inr (.inl ⟨f, k, h4, ?_⟩)
      rcases first_cases M l b with ⟨h5, h6⟩ | ⟨k', p', h5, h6, h7, h8⟩
      · exact .inl h5
      · refine .inr ⟨p'.1, p'.2, k', h8, ?_⟩
        rcases Nat.lt_trichotomy k k' with h9 | rfl | h9
        · exact h9
        · rw [h] at h6; cases h6
        · rw [hlow k' h9] at h6; cases h6
theorem br_snoc {l : List Br} {x : Br} (h : brErr (l ++ [x]) = 0) : brErr l = 0 := by
  induction l with
  | nil => rfl
  | cons y l ih =>
    rw [List.cons_append, brErr] at h
    rw [brErr]
    split at h
    · cases h
    · rename_i h1
      rw [if_neg h1]
      split at h
      · rename_i h2; exact absurd h h2.2
      · rename_i h2
        rw [if_neg h2]; exact ih h
theorem new_snoc {most : Int} {l : List Br} {x : Br} (h1 : 1 ≤ most) (h2 : most ≤ 1048576) (h3 : (l ++ [x]).length ≤ 64) (h4 : brErr (l ++ [x]) = 0) : newErr most l = 0 := by
  rw [newErr, if_neg (by omega), if_neg (by simp at h3; omega)]
  exact br_snoc h4
end Mt
end Go.Proofs.Ytojgdmpnbgikeaa
