/- The law of the loop that asks whether a text is like things: plain Lean. No condition. -/
import Derived.Test.YtojgdmpnbgikeaaGlobSpec
set_option linter.unusedVariables false
set_option linter.unusedSimpArgs false
namespace Go.Proofs.Ytojgdmpnbgikeaa
namespace Glob
/-- The state of the loop in 'like': what is left to ask. -/
def St (ths : List Th) (t : List UInt8) (k i : Nat) (st : Int) (fr : Nat) : Prop :=
  k ≤ ths.length ∧ i ≤ t.length ∧ fr ≤ i ∧
  ((st = -1 ∧ fr = 0 ∧ Like ths t = Like (ths.drop k) (t.drop i)) ∨
   (∃ s0 : Nat, st = s0 ∧ k = s0 + 1 + (i - fr) ∧ At ((ths.drop (s0 + 1)).take (i - fr)) (t.drop fr) ∧ Like ths t = Like (.any :: ths.drop (s0 + 1)) (t.drop fr)))
theorem St.init (ths : List Th) (t : List UInt8) : St ths t 0 0 (-1) 0 := ⟨by omega, by omega, by omega, .inl ⟨rfl, rfl, by simp⟩⟩
theorem drop_th {ths : List Th} {k : Nat} {x : Th} (h : ths[k]? = some x) : ths.drop k = x :: ths.drop (k + 1) := by
  obtain ⟨h1, h2⟩ := List.getElem?_eq_some_iff.1 h
  rw [List.drop_eq_getElem_cons h1, h2]
theorem drop_b {t : List UInt8} {k : Nat} {x : UInt8} (h : t[k]? = some x) : t.drop k = x :: t.drop (k + 1) := by
  obtain ⟨h1, h2⟩ := List.getElem?_eq_some_iff.1 h
  rw [List.drop_eq_getElem_cons h1, h2]
/-- The parts of what is behind the star. -/
theorem cut_star {ths : List Th} {s0 i fr k : Nat} (hk : k = s0 + 1 + (i - fr)) (hl : k ≤ ths.length) :
    ths.drop (s0 + 1) = (ths.drop (s0 + 1)).take (i - fr) ++ ths.drop k ∧ ((ths.drop (s0 + 1)).take (i - fr)).length = i - fr := by
  constructor
  · have h := (List.take_append_drop (i - fr) (ths.drop (s0 + 1))).symm
    rw [List.drop_drop, ← hk] at h; exact h
  · rw [List.length_take, List.length_drop]; omega
theorem St.star {ths : List Th} {t : List UInt8} {k i : Nat} {st : Int} {fr : Nat} (h : St ths t k i st fr) (hx : ths[k]? = some .any) : St ths t (k + 1) i k i := by
  obtain ⟨h1, h2, h3, h⟩ := h
  have hlt := (List.getElem?_eq_some_iff.1 hx).1
  refine ⟨by omega, h2, Nat.le_refl _, .inr ⟨k, rfl, by omega, by rw [Nat.sub_self, List.take_zero]; exact trivial, ?_⟩⟩
  rcases h with ⟨_, _, h⟩ | ⟨s0, _, hk, hA, h⟩
  · rw [h, drop_th hx]
  · obtain ⟨e1, e2⟩ := cut_star hk h1
    rw [h, e1, drop_th hx, like_next hA, e2, List.drop_drop, show fr + (i - fr) = i by omega]
theorem St.step {ths : List Th} {t : List UInt8} {k i : Nat} {st : Int} {fr : Nat} {x : Th} {c : UInt8} (h : St ths t k i st fr) (hx : ths[k]? = some x) (hc : t[i]? = some c) (ha : x.isAny = false) (hh : x.has c = true) : St ths t (k + 1) (i + 1) st fr := by
  obtain ⟨h1, h2, h3, h⟩ := h
  have hlt := (List.getElem?_eq_some_iff.1 hx).1
  have hit := (List.getElem?_eq_some_iff.1 hc).1
  refine ⟨by omega, by omega, by omega, ?_⟩
  rcases h with ⟨e1, e2, h⟩ | ⟨s0, e1, hk, hA, h⟩
  · refine .inl ⟨e1, e2, ?_⟩
    rw [h, drop_th hx, drop_b hc, like_cons_cons ha, hh, Bool.true_and]
  · obtain ⟨_, e3⟩ := cut_star hk h1
    refine .inr ⟨s0, e1, by omega, ?_, h⟩
    have h5 := hA.snoc (x := x) (c := c) (by rw [e3, List.getElem?_drop, show fr + (i - fr) = i by omega]; exact hc) ha hh
    rw [show i + 1 - fr = (i - fr) + 1 by omega, List.take_add_one]
    have : (ths.drop (s0 + 1))[i - fr]? = some x := by rw [List.getElem?_drop, ← hk]; exact hx
    rw [this]; exact h5
/-- What stands at the place is not what the text goes on with. -/
def Miss (ths : List Th) (t : List UInt8) (k i : Nat) : Prop := Like (ths.drop k) (t.drop i) = false
theorem miss_end {ths : List Th} {t : List UInt8} {k i : Nat} (hk : ths.length ≤ k) (hi : i < t.length) : Miss ths t k i := by
  unfold Miss
  rw [List.drop_eq_nil_of_le hk, List.drop_eq_getElem_cons hi]; exact like_nil_cons _ _
theorem miss_has {ths : List Th} {t : List UInt8} {k i : Nat} {x : Th} {c : UInt8} (hx : ths[k]? = some x) (hc : t[i]? = some c) (ha : x.isAny = false) (hh : x.has c = false) : Miss ths t k i := by
  unfold Miss
  rw [drop_th hx, drop_b hc, like_cons_cons ha, hh, Bool.false_and]
theorem St.no {ths : List Th} {t : List UInt8} {k i : Nat} {fr : Nat} {st : Int} (hst : st < 0) (h : St ths t k i st fr) (hm : Miss ths t k i) : Like ths t = false := by
  obtain ⟨h1, h2, h3, h⟩ := h
  rcases h with ⟨_, _, h⟩ | ⟨s0, e1, hk, hA, h⟩
  · rw [h]; exact hm
  · omega
theorem St.back {ths : List Th} {t : List UInt8} {k i : Nat} {fr : Nat} {st : Int} (hst : 0 ≤ st) (h : St ths t k i st fr) (hi : i < t.length) (hm : Miss ths t k i) :
    ∃ s0 : Nat, st = s0 ∧ s0 + 1 ≤ ths.length ∧ St ths t (s0 + 1) (fr + 1) st (fr + 1) := by
  obtain ⟨h1, h2, h3, h⟩ := h
  rcases h with ⟨e, _, _⟩ | ⟨s0, e1, hk, hA, h⟩
  · omega
  · obtain ⟨e2, e3⟩ := cut_star hk h1
    refine ⟨s0, e1, by omega, by omega, by omega, Nat.le_refl _, .inr ⟨s0, e1, by omega, by rw [Nat.sub_self, List.take_zero]; exact trivial, ?_⟩⟩
    have h5 : Like (ths.drop (s0 + 1)) (t.drop fr) = false := by
      rw [e2, like_at hA, e3, List.drop_drop, show fr + (i - fr) = i by omega]; exact hm
    rw [h, like_skip h5 (by intro e; have := congrArg List.length e; simp at this; omega), List.drop_drop]
theorem St.fin {ths : List Th} {t : List UInt8} {k i : Nat} {fr : Nat} {st : Int} (h : St ths t k i st fr) (hi : t.length ≤ i) : Like ths t = Like (ths.drop k) [] := by
  obtain ⟨h1, h2, h3, h⟩ := h
  rcases h with ⟨_, _, h⟩ | ⟨s0, e1, hk, hA, h⟩
  · rw [h, List.drop_eq_nil_of_le hi]
  · obtain ⟨e2, e3⟩ := cut_star hk h1
    have h6 := like_end hA (by rw [e3, List.length_drop]; omega) (ths.drop k)
    rw [h, e2]; exact h6
theorem fin_any {ths : List Th} {k : Nat} (hx : ths[k]? = some .any) : Like (ths.drop k) [] = Like (ths.drop (k + 1)) [] := by rw [drop_th hx, like_any_nil]
theorem fin_no {ths : List Th} {k : Nat} {x : Th} (hx : ths[k]? = some x) (ha : x.isAny = false) : Like (ths.drop k) [] = false := by rw [drop_th hx, like_cons_nil ha]
theorem fin_all {ths : List Th} {k : Nat} (h : ths.length ≤ k) : Like (ths.drop k) [] = true := by rw [List.drop_eq_nil_of_le h, like_nil_nil]
theorem lex_k {S n fr fr' k k' : Nat} (h1 : fr ≤ fr') (h2 : k < k') (h3 : k' ≤ n) : (S - fr') * (n + 1) + (n - k') < (S - fr) * (n + 1) + (n - k) := by
  have : (S - fr') * (n + 1) ≤ (S - fr) * (n + 1) := Nat.mul_le_mul_right _ (by omega)
  omega
theorem lex_f {S n fr k k' : Nat} (h1 : fr < S) : (S - (fr + 1)) * (n + 1) + (n - k') < (S - fr) * (n + 1) + (n - k) := by
  have : (S - fr) * (n + 1) = (S - (fr + 1)) * (n + 1) + (n + 1) := by
    rw [show S - fr = (S - (fr + 1)) + 1 by omega, Nat.succ_mul]
  omega
end Glob
end Go.Proofs.Ytojgdmpnbgikeaa
