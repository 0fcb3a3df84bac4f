/- Braces within braces, in plain Lean. No condition. -/
import Derived.Test.YteodhnblbehenaaTclEqs
set_option linter.unusedVariables false
set_option linter.unusedSimpArgs false
namespace Go.Proofs.Yteodhnblbehenaa
namespace Tcl
def deepS (a k : Nat) : List UInt8 := List.replicate a 32 ++ (List.replicate k 123 ++ List.replicate k 125)
theorem deep_blank {a k i : Nat} (h : i < a) : (deepS a k)[i]? = some 32 := by
  unfold deepS
  rw [List.getElem?_append_left (by simp; omega)]; simp [h]
theorem deep_open {a k i : Nat} (h : i < k) : (deepS a k)[a + i]? = some 123 := by
  unfold deepS
  rw [List.getElem?_append_right (by simp), List.getElem?_append_left (by simp; omega)]; simp [h]
theorem deep_close {a k i : Nat} (h : i < k) : (deepS a k)[a + k + i]? = some 125 := by
  unfold deepS
  rw [List.getElem?_append_right (by simp; omega), List.getElem?_append_right (by simp; omega)]
  simp only [List.length_replicate]
  rw [show a + k + i - a - k = i by omega]; simp [h]
theorem deep_end (a k : Nat) : (deepS a k)[a + 2 * k]? = none := List.getElem?_eq_none (by simp [deepS]; omega)
theorem deep_blanks (a k : Nat) : ∀ m, m ≤ a → parseGo (deepS a k) 0 [] = parseGo (deepS a k) m [] := by
  intro m
  induction m with
  | zero => intro _; rfl
  | succ m ih =>
    intro h
    rw [ih (by omega), parse_some (deep_blank (by omega)), if_pos (by decide)]
theorem deep_opens (a k : Nat) : ∀ m, m ≤ k → m ≤ 64 → braced (deepS a k) a a 0 = braced (deepS a k) a (a + m) m := by
  intro m
  induction m with
  | zero => intro _ _; rfl
  | succ m ih =>
    intro h1 h2
    rw [ih (by omega) (by omega), braced_some (deep_open (by omega)), if_neg (by decide), if_pos rfl, if_neg (by omega)]; rfl
theorem deep_closes (a k : Nat) : ∀ m, m < k → braced (deepS a k) a (a + k) k = braced (deepS a k) a (a + k + m) (k - m) := by
  intro m
  induction m with
  | zero => intro _; rfl
  | succ m ih =>
    intro h
    rw [ih (by omega), braced_some (deep_close (by omega)), if_neg (by decide), if_neg (by decide), if_pos rfl, if_pos (by omega)]
    rw [show k - m - 1 = k - (m + 1) by omega]; rfl
theorem deep_braced (a k : Nat) (h1 : 1 ≤ k) (h2 : k ≤ 64) : braced (deepS a k) a a 0 = .ok (a + 2 * k) := by
  rw [deep_opens a k k (Nat.le_refl _) h2, deep_closes a k (k - 1) (by omega), braced_some (deep_close (by omega)), if_neg (by decide), if_neg (by decide), if_pos rfl, if_neg (by omega)]
  congr 1; omega
theorem deep_bad (a k : Nat) (h : 64 < k) : braced (deepS a k) a a 0 = .error (a + 64, 7) := by
  rw [deep_opens a k 64 (by omega) (Nat.le_refl _), braced_some (deep_open h), if_neg (by decide), if_pos rfl, if_pos (by omega)]
theorem deep_ok (a k : Nat) (h1 : 1 ≤ k) (h2 : k ≤ 64) : ∃ ps, parseGo (deepS a k) 0 [] = .ok [⟨a, [⟨a, 2, ps⟩]⟩] := by
  refine ⟨if a + 2 * k = a + 2 then [] else [⟨false, sub (deepS a k) (a + 1) (a + 2 * k - 1)⟩], ?_⟩
  have h0 : (deepS a k)[a]? = some 123 := deep_open (i := 0) (by omega)
  have hw : word (deepS a k) a 123 = .ok (⟨a, 2, if a + 2 * k = a + 2 then [] else [⟨false, sub (deepS a k) (a + 1) (a + 2 * k - 1)⟩]⟩, a + 2 * k) := by
    unfold word
    rw [if_pos rfl, deep_braced a k h1 h2]
    simp only [behind, deep_end]
  have hc : command (deepS a k) a [] = .ok ([⟨a, 2, if a + 2 * k = a + 2 then [] else [⟨false, sub (deepS a k) (a + 1) (a + 2 * k - 1)⟩]⟩], a + 2 * k) := by
    rw [command_some h0, if_neg (by decide), if_neg (by decide), hw]
    simp only
    rw [if_pos (by omega), command_none (deep_end a k)]; rfl
  rw [deep_blanks a k a (Nat.le_refl _), parse_some h0, if_neg (by decide), if_neg (by decide), hc]
  simp only
  rw [if_pos (by omega), parse_none (deep_end a k)]; rfl
theorem deep_err (a k : Nat) (h : 64 < k) : parseGo (deepS a k) 0 [] = .error (a + 64, 7) := by
  have h0 : (deepS a k)[a]? = some 123 := deep_open (i := 0) (by omega)
  have hw : word (deepS a k) a 123 = .error (a + 64, 7) := by
    unfold word
    rw [if_pos rfl, deep_bad a k h]
  have hc : command (deepS a k) a [] = .error (a + 64, 7) := by
    rw [command_some h0, if_neg (by decide), if_neg (by decide), hw]
  rw [deep_blanks a k a (Nat.le_refl _), parse_some h0, if_neg (by decide), if_neg (by decide), hc]
theorem deep_none (a : Nat) : parseGo (deepS a 0) 0 [] = .ok [] := by
  rw [deep_blanks a 0 a (Nat.le_refl _)]; exact parse_none (deep_end a 0)
end Tcl
end Go.Proofs.Yteodhnblbehenaa
