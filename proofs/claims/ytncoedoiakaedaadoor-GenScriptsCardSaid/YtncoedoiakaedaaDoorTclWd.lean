/- What a word is, way by way. No condition. -/
import Derived.Test.YtncoedoiakaedaaDoorTclEqs
set_option linter.unusedVariables false
set_option linter.unusedSimpArgs false
namespace Go.Proofs.YtncoedoiakaedaaDoor
namespace Tcl
theorem word_bare_ok {s : List UInt8} {i j : Nat} {c : UInt8} {ps : List Part} (h1 : c ≠ 123) (h2 : c ≠ 34) (h : partsGo stopB s none i [] [] = .ok (ps, j)) : word s i c = .ok (⟨i, 0, ps⟩, j) := by
  unfold word; rw [if_neg h1, if_neg h2, h]
theorem word_bare_err {s : List UInt8} {i : Nat} {c : UInt8} {b : Bad} (h1 : c ≠ 123) (h2 : c ≠ 34) (h : partsGo stopB s none i [] [] = .error b) : word s i c = .error b := by
  unfold word; rw [if_neg h1, if_neg h2, h]
theorem word_q_err {s : List UInt8} {i : Nat} {b : Bad} (h : partsGo quoteB s (some i) (i + 1) [] [] = .error b) : word s i 34 = .error b := by
  unfold word; rw [if_neg (by decide), if_pos rfl, h]
theorem word_q_short {s : List UInt8} {i : Nat} {ps : List Part} (h : partsGo quoteB s (some i) (i + 1) [] [] = .ok (ps, s.length)) : word s i 34 = .error (i, 5) := by
  unfold word; rw [if_neg (by decide), if_pos rfl, h]; simp
theorem word_q_ok {s : List UInt8} {i j : Nat} {ps : List Part} (h : partsGo quoteB s (some i) (i + 1) [] [] = .ok (ps, j)) (hj : j ≠ s.length) (hb : behind s (j + 1) = .ok ()) : word s i 34 = .ok (⟨i, 1, ps⟩, j + 1) := by
  unfold word; rw [if_neg (by decide), if_pos rfl, h]; simp only; rw [if_neg hj, hb]
theorem word_q_bad {s : List UInt8} {i j : Nat} {ps : List Part} {b : Bad} (h : partsGo quoteB s (some i) (i + 1) [] [] = .ok (ps, j)) (hj : j ≠ s.length) (hb : behind s (j + 1) = .error b) : word s i 34 = .error b := by
  unfold word; rw [if_neg (by decide), if_pos rfl, h]; simp only; rw [if_neg hj, hb]
theorem word_b_err {s : List UInt8} {i : Nat} {b : Bad} (h : braced s i i 0 = .error b) : word s i 123 = .error b := by
  unfold word; rw [if_pos rfl, h]
theorem word_b_ok {s : List UInt8} {i j : Nat} (h : braced s i i 0 = .ok j) (hb : behind s j = .ok ()) : word s i 123 = .ok (⟨i, 2, if j = i + 2 then [] else [⟨false, sub s (i + 1) (j - 1)⟩]⟩, j) := by
  unfold word; rw [if_pos rfl, h]; simp only [hb]
theorem word_b_bad {s : List UInt8} {i j : Nat} {b : Bad} (h : braced s i i 0 = .ok j) (hb : behind s j = .error b) : word s i 123 = .error b := by
  unfold word; rw [if_pos rfl, h]; simp only [hb]
theorem behind_none {s : List UInt8} {j : Nat} (h : s.length ≤ j) : behind s j = .ok () := by
  unfold behind; rw [List.getElem?_eq_none h]
theorem behind_ok {s : List UInt8} {j : Nat} {c : UInt8} (h : s[j]? = some c) (hc : stopB c = true) : behind s j = .ok () := by
  unfold behind; rw [h]; simp [hc]
theorem behind_bad {s : List UInt8} {j : Nat} {c : UInt8} (h : s[j]? = some c) (hc : stopB c = false) : behind s j = .error (j, 4) := by
  unfold behind; rw [h]; simp [hc]
end Tcl
end Go.Proofs.YtncoedoiakaedaaDoor
