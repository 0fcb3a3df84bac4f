/- Branches and hits in plain Lean: where a branch is hit at the end of some bytes, which one is first. No condition. -/
import Derived.Test.YtojgdmpnbgikeaaGlobSpec
import Derived.Test.YtojgdmpnbgikeaaKmpSpec
set_option linter.unusedVariables false
set_option linter.unusedSimpArgs false
namespace Go.Proofs.Ytojgdmpnbgikeaa
namespace Mt
open Glob
structure Br where
  kind : Int
  pat : List UInt8
/-- Is a text what the branch says? -/
def fits (x : Br) (t : List UInt8) : Bool :=
  if x.kind = 0 then t == x.pat else if x.kind = 1 then (match parse x.pat with | some ths => Like ths t | none => false) else false
/-- The least place from which on a branch is hit at the end of T. -/
def fromOf (most : Nat) (x : Br) (T : List UInt8) : Option Nat := (List.range (T.length + 1)).find? fun f => decide (T.length ≤ f + most) && fits x (T.drop f)
/-- The first branch that is hit there, and from where. -/
def hitOf (most : Nat) : List Br → List UInt8 → Option (Nat × Nat)
  | [], _ => none
  | x :: l, T => match fromOf most x T with
    | some f => some (0, f)
    | none => (hitOf most l T).map fun p => (p.1 + 1, p.2)
theorem from_some {most f : Nat} {x : Br} {T : List UInt8} (h1 : f ≤ T.length) (h2 : T.length ≤ f + most) (h3 : fits x (T.drop f) = true) (h4 : ∀ j, j < f → T.length ≤ j + most → fits x (T.drop j) = false) : fromOf most x T = some f := by
  unfold fromOf
  rw [List.find?_range_eq_some]
  refine ⟨by simp [h2, h3], by simp; omega, fun j hj => ?_⟩
  by_cases h : T.length ≤ j + most
  · simp [h, h4 j hj h]
  · simp [h]
theorem from_none {most : Nat} {x : Br} {T : List UInt8} (h : ∀ j, j ≤ T.length → T.length ≤ j + most → fits x (T.drop j) = false) : fromOf most x T = none := by
  unfold fromOf
  rw [List.find?_eq_none]
  intro j hj
  rw [List.mem_range] at hj
  by_cases h1 : T.length ≤ j + most
  · simp [h1, h j (by omega) h1]
  · simp [h1]
theorem from_spec {most f : Nat} {x : Br} {T : List UInt8} (h : fromOf most x T = some f) : f ≤ T.length ∧ T.length ≤ f + most ∧ fits x (T.drop f) = true := by
  unfold fromOf at h
  have h1 := List.mem_of_find?_eq_some h
  have h2 := List.find?_some h
  rw [List.mem_range] at h1
  simp at h2
  exact ⟨by omega, h2.1, h2.2⟩
theorem from_exact {most : Nat} {x : Br} {T : List UInt8} (hk : x.kind = 0) (hm : x.pat.length ≤ most) :
    fromOf most x T = if x.pat <:+ T then some (T.length - x.pat.length) else none := by
  by_cases h : x.pat <:+ T
  · rw [if_pos h]
    have hl := h.length_le
    refine from_some (by omega) (by omega) ?_ fun j hj _ => ?_
    · rw [fits, if_pos hk]
      have := List.suffix_iff_eq_drop.1 h
      rw [beq_iff_eq]; exact this.symm
    · rw [fits, if_pos hk, beq_eq_false_iff_ne]
      intro e
      have := congrArg List.length e
      simp at this; omega
  · rw [if_neg h]
    refine from_none fun j hj _ => ?_
    rw [fits, if_pos hk, beq_eq_false_iff_ne]
    intro e
    exact h (e ▸ List.drop_suffix _ _)
theorem from_long {most : Nat} {x : Br} {T : List UInt8} (hk : x.kind = 0) (hm : most < x.pat.length) : fromOf most x T = none := by
  refine from_none fun j hj h1 => ?_
  rw [fits, if_pos hk, beq_eq_false_iff_ne]
  intro e
  have := congrArg List.length e
  simp at this; omega
theorem from_never {most : Nat} {x : Br} {T : List UInt8} (hk : x.kind ≠ 0) (hk1 : x.kind ≠ 1) : fromOf most x T = none := by
  refine from_none fun j hj h1 => ?_
  rw [fits, if_neg hk, if_neg hk1]
/-- The last bytes. -/
def lastB (k : Nat) (T : List UInt8) : List UInt8 := T.drop (T.length - k)
theorem lastB_length (k : Nat) (T : List UInt8) : (lastB k T).length = min k T.length := by simp [lastB]; omega
theorem from_glob_some {most i : Nat} {x : Br} {T : List UInt8} {ths : List Th} (hk : x.kind = 1) (hp : parse x.pat = some ths) (hi : i ≤ (lastB most T).length) (hL : Like ths ((lastB most T).drop i) = true)
    (hn : ∀ j, j < i → Like ths ((lastB most T).drop j) = false) : fromOf most x T = some (T.length - (lastB most T).length + i) := by
  have hl := lastB_length most T
  have hd : ∀ j, (lastB most T).drop j = T.drop (T.length - most + j) := fun j => by rw [lastB, List.drop_drop]
  have he : T.length - (lastB most T).length = T.length - most := by omega
  rw [he]
  have hf : ∀ t, fits x t = Like ths t := fun t => by rw [fits, if_neg (by omega), if_pos hk, hp]
  refine from_some (by omega) (by omega) (by rw [hf, ← hd]; exact hL) fun j hj h1 => ?_
  rw [hf]
  have := hn (j - (T.length - most)) (by omega)
  rw [hd] at this
  rwa [show T.length - most + (j - (T.length - most)) = j by omega] at this
theorem from_glob_none {most : Nat} {x : Br} {T : List UInt8} {ths : List Th} (hk : x.kind = 1) (hp : parse x.pat = some ths) (hn : ∀ j, j ≤ (lastB most T).length → Like ths ((lastB most T).drop j) = false) : fromOf most x T = none := by
  have hl := lastB_length most T
  have hd : ∀ j, (lastB most T).drop j = T.drop (T.length - most + j) := fun j => by rw [lastB, List.drop_drop]
  have hf : ∀ t, fits x t = Like ths t := fun t => by rw [fits, if_neg (by omega), if_pos hk, hp]
  refine from_none fun j hj h1 => ?_
  rw [hf]
  have := hn (j - (T.length - most)) (by omega)
  rw [hd] at this
  rwa [show T.length - most + (j - (T.length - most)) = j by omega] at this
/-- The first i branches are not hit. -/
def Upto (most : Nat) (l : List Br) (T : List UInt8) (i : Nat) : Prop := ∀ j x, j < i → l[j]? = some x → fromOf most x T = none
theorem hit_some {most : Nat} {l : List Br} {T : List UInt8} {i f : Nat} {x : Br} (h : Upto most l T i) (hi : l[i]? = some x) (hf : fromOf most x T = some f) : hitOf most l T = some (i, f) := by
  induction l generalizing i with
  | nil => simp at hi
  | cons y l ih =>
    rw [hitOf]
    cases i with
    | zero => simp at hi; subst hi; rw [hf]
    | succ i =>
      rw [h 0 y (by omega) rfl, ih (i := i) (fun j z (hj : j < i) hz => h (j + 1) z (by omega) (by simpa using hz)) (by simpa using hi)]
      rfl
theorem hit_none {most : Nat} {l : List Br} {T : List UInt8} (h : Upto most l T l.length) : hitOf most l T = none := by
  induction l with
  | nil => rfl
  | cons y l ih =>
    rw [hitOf, h 0 y (by simp) rfl, ih (fun j z hj hz => h (j + 1) z (by simp; omega) (by simpa using hz))]
    rfl
end Mt
end Go.Proofs.Ytojgdmpnbgikeaa
