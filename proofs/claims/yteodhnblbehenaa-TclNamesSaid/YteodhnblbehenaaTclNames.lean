/- A variable's name ahead of another byte, in plain Lean. No condition. -/
import Derived.Test.YteodhnblbehenaaTclEqs
import Derived.Test.YteodhnblbehenaaTclWd
set_option linter.unusedVariables false
set_option linter.unusedSimpArgs false
namespace Go.Proofs.Yteodhnblbehenaa
namespace Tcl
theorem parts_plain {stop : UInt8 → Bool} {s : List UInt8} {f : Option Nat} {i : Nat} {l : List Part} {t : List UInt8} {c : UInt8} (h : s[i]? = some c) (h1 : stop c = false) (h2 : c ≠ 91) (h3 : c ≠ 92) (h4 : c ≠ 36) :
    partsGo stop s f i l t = partsGo stop s f (i + 1) l (t ++ [c]) := by
  rw [parts_some h, if_neg (by rw [h1]; decide), if_neg h2, if_neg h3, if_neg h4]
theorem parts_stop {stop : UInt8 → Bool} {s : List UInt8} {f : Option Nat} {i : Nat} {l : List Part} {t : List UInt8} {c : UInt8} (h : s[i]? = some c) (h1 : stop c = true) :
    partsGo stop s f i l t = .ok (flush l t, i) := by
  rw [parts_some h, if_pos h1]
theorem parts_dollar {stop : UInt8 → Bool} {s : List UInt8} {f : Option Nat} {i : Nat} {l : List Part} {t : List UInt8} (h : s[i]? = some 36) (h1 : stop 36 = false) :
    partsGo stop s f i l t = if 64 < nameLen (s.drop (i + 1)) then .error (i, 6) else if nameLen (s.drop (i + 1)) = 0 then partsGo stop s f (i + 1) l (t ++ [36])
      else partsGo stop s f (i + 1 + nameLen (s.drop (i + 1))) (flush l t ++ [⟨true, (s.drop (i + 1)).take (nameLen (s.drop (i + 1)))⟩]) [] := by
  rw [parts_some h, if_neg (by rw [h1]; decide), if_neg (by decide), if_neg (by decide), if_pos rfl]
theorem nameLen_app (S : List UInt8) (E : UInt8) (r : List UInt8) (hS : S.all nameB = true) (hE : nameB E = false) : nameLen (S ++ E :: r) = S.length := by
  induction S with
  | nil => simp [nameLen, hE]
  | cons c S ih =>
    simp only [List.all_cons, Bool.and_eq_true] at hS
    simp [nameLen, hS.1, ih hS.2]
/-- The text's bytes behind "send ". -/
def nameT (q : Bool) (S : List UInt8) (E : UInt8) : List UInt8 :=
  if q then 115 :: 101 :: 110 :: 100 :: 32 :: 34 :: 97 :: 36 :: (S ++ [E, 34]) else 115 :: 101 :: 110 :: 100 :: 32 :: 97 :: 36 :: (S ++ [E])
/-- A byte that stands for itself, and is no name's. -/
def endOf (E : UInt8) : Prop := nameB E = false ∧ stopB E = false ∧ quoteB E = false ∧ E ≠ 91 ∧ E ≠ 92 ∧ E ≠ 36
def sendP : Word := ⟨0, 0, [⟨false, [115, 101, 110, 100]⟩]⟩
def nameW (q : Bool) (S : List UInt8) (E : UInt8) : List Part := if S = [] then [⟨false, [97, 36, E]⟩] else [⟨false, [97]⟩, ⟨true, S⟩, ⟨false, [E]⟩]
theorem send_word (s : List UInt8) (h0 : s[0]? = some 115) (h1 : s[1]? = some 101) (h2 : s[2]? = some 110) (h3 : s[3]? = some 100) (h4 : s[4]? = some 32) : word s 0 115 = .ok (sendP, 4) := by
  refine word_bare_ok (by decide) (by decide) ?_
  rw [parts_plain h0 (by decide) (by decide) (by decide) (by decide), parts_plain h1 (by decide) (by decide) (by decide) (by decide), parts_plain h2 (by decide) (by decide) (by decide) (by decide),
    parts_plain h3 (by decide) (by decide) (by decide) (by decide), parts_stop h4 (by decide)]
  rfl
/-- The whole text, by its second word. -/
theorem send_two (s : List UInt8) (c : UInt8) (h0 : s[0]? = some 115) (h1 : s[1]? = some 101) (h2 : s[2]? = some 110) (h3 : s[3]? = some 100) (h4 : s[4]? = some 32) (h5 : s[5]? = some c) (hc : stopB c = false) :
    parseGo s 0 [] = match word s 5 c with | .error b => .error b | .ok (w, j) => if 5 < j then match command s j [sendP, w] with | .error b => .error b | .ok (ws, k) => if 0 < k then parseGo s k [⟨0, ws⟩] else .error (0, 0) else .error (0, 0) := by
  have he : endB c = false := by simp [stopB] at hc; exact hc.2
  have hb : blankB c = false := by simp [stopB] at hc; exact hc.1
  rw [parse_some h0, if_neg (by decide), if_neg (by decide), command_some h0, if_neg (by decide), if_neg (by decide), send_word s h0 h1 h2 h3 h4]
  simp only
  rw [if_pos (by decide), command_some h4, if_neg (by decide), if_pos (by decide), command_some h5, if_neg (by rw [he]; decide), if_neg (by rw [hb]; decide)]
  cases word s 5 c with
  | error b => rfl
  | ok p =>
    obtain ⟨w, j⟩ := p
    simp only
    by_cases h5 : 5 < j
    · rw [if_pos h5, if_pos h5]; rfl
    · rw [if_neg h5, if_neg h5]
theorem send_done (s : List UInt8) (c : UInt8) (h0 : s[0]? = some 115) (h1 : s[1]? = some 101) (h2 : s[2]? = some 110) (h3 : s[3]? = some 100) (h4 : s[4]? = some 32) (h5 : s[5]? = some c) (hc : stopB c = false) {w : Word} {j : Nat}
    (hw : word s 5 c = .ok (w, j)) (hj : s.length ≤ j) (hj5 : 5 < j) : parseGo s 0 [] = .ok [⟨0, [sendP, w]⟩] := by
  rw [send_two s c h0 h1 h2 h3 h4 h5 hc, hw]
  simp only
  rw [if_pos hj5, command_none (List.getElem?_eq_none hj)]
  simp only
  rw [if_pos (by omega), parse_none (List.getElem?_eq_none hj)]
theorem names_long (q : Bool) (S : List UInt8) (E : UInt8) (hS : S.all nameB = true) (hE : endOf E) (hl : 64 < S.length) : parseGo (nameT q S E) 0 [] = .error (if q then 7 else 6, 6) := by
  cases q with
  | false =>
    have hn : nameLen ((nameT false S E).drop 7) = S.length := nameLen_app S E [] hS hE.1
    rw [send_two (nameT false S E) 97 rfl rfl rfl rfl rfl rfl (by decide), word_bare_err (b := (6, 6)) (by decide) (by decide) ?_]
    · rfl
    rw [parts_plain (c := 97) rfl (by decide) (by decide) (by decide) (by decide), parts_dollar rfl (by decide), if_pos (by rw [hn]; exact hl)]
  | true =>
    have hn : nameLen ((nameT true S E).drop 8) = S.length := nameLen_app S E [34] hS hE.1
    rw [send_two (nameT true S E) 34 rfl rfl rfl rfl rfl rfl (by decide), word_q_err (b := (7, 6)) ?_]
    · rfl
    rw [parts_plain (c := 97) rfl (by decide) (by decide) (by decide) (by decide), parts_dollar rfl (by decide), if_pos (by rw [hn]; exact hl)]
theorem names_parts (stop : UInt8 → Bool) (s : List UInt8) (f : Option Nat) (i : Nat) (S : List UInt8) (E : UInt8) (r : List UInt8) (hs : s.drop (i + 2) = S ++ E :: r) (ha : s[i]? = some 97) (hd : s[i + 1]? = some 36) (h97 : stop 97 = false) (h36 : stop 36 = false)
    (hS : S.all nameB = true) (hE : endOf E) (hst : stop E = false) (hl : S.length ≤ 64) :
    partsGo stop s f i [] [] = partsGo stop s f (i + 3 + S.length) (if S = [] then [] else [⟨false, [97]⟩, ⟨true, S⟩]) (if S = [] then [97, 36, E] else [E]) := by
  have hn : nameLen (s.drop (i + 1 + 1)) = S.length := by rw [hs]; exact nameLen_app S E r hS hE.1
  have he : s[i + 1 + 1 + S.length]? = some E := by
    have : (s.drop (i + 2))[S.length]? = some E := by rw [hs]; simp
    rw [List.getElem?_drop] at this; exact this
  rw [parts_plain ha h97 (by decide) (by decide) (by decide), parts_dollar hd h36, hn, if_neg (by omega)]
  by_cases h0 : S = []
  · subst h0
    rw [if_pos List.length_nil, if_pos rfl, if_pos rfl, parts_plain (i := i + 1 + 1) he hst hE.2.2.2.1 hE.2.2.2.2.1 hE.2.2.2.2.2]; rfl
  · rw [if_neg (by rw [List.length_eq_zero_iff]; exact h0), if_neg h0, if_neg h0, parts_plain he hst hE.2.2.2.1 hE.2.2.2.2.1 hE.2.2.2.2.2]
    rw [show i + 1 + 1 + S.length + 1 = i + 3 + S.length by omega, show s.drop (i + 1 + 1) = S ++ E :: r from hs]
    simp [flush]
theorem names_fine (q : Bool) (S : List UInt8) (E : UInt8) (hS : S.all nameB = true) (hE : endOf E) (hl : S.length ≤ 64) : parseGo (nameT q S E) 0 [] = .ok [⟨0, [sendP, ⟨5, if q then 1 else 0, nameW q S E⟩]⟩] := by
  have hw : flush (if S = [] then [] else [⟨false, [97]⟩, ⟨true, S⟩]) (if S = [] then [97, 36, E] else [E]) = nameW q S E := by
    unfold nameW flush
    by_cases h0 : S = [] <;> simp [h0]
  cases q with
  | false =>
    refine send_done (nameT false S E) 97 rfl rfl rfl rfl rfl rfl (by decide) (j := 8 + S.length) (word_bare_ok (by decide) (by decide) ?_) (by simp [nameT]; omega) (by omega)
    rw [names_parts stopB (nameT false S E) none 5 S E [] rfl rfl rfl (by decide) (by decide) hS hE hE.2.1 hl, parts_none (List.getElem?_eq_none (by simp [nameT]; omega)), hw]
  | true =>
    have h34 : (nameT true S E)[6 + 3 + S.length]? = some 34 := by
      show (115 :: 101 :: 110 :: 100 :: 32 :: 34 :: 97 :: 36 :: (S ++ [E, 34]))[6 + 3 + S.length]? = some 34
      rw [show 6 + 3 + S.length = S.length + 1 + 1 + 1 + 1 + 1 + 1 + 1 + 1 + 1 by omega]
      simp only [List.getElem?_cons_succ]
      rw [List.getElem?_append_right (by omega)]; simp
    refine send_done (nameT true S E) 34 rfl rfl rfl rfl rfl rfl (by decide) (j := 6 + 3 + S.length + 1) (word_q_ok (j := 6 + 3 + S.length) (ps := nameW true S E) ?_ (by simp [nameT]; omega) (behind_none (by simp [nameT]; omega))) (by simp [nameT]; omega) (by omega)
    rw [names_parts quoteB (nameT true S E) (some 5) 6 S E [34] rfl rfl rfl (by decide) (by decide) hS hE hE.2.2.1 hl, parts_stop h34 (by decide), hw]
end Tcl
end Go.Proofs.Yteodhnblbehenaa
