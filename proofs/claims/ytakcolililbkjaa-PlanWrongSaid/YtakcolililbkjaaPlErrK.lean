/- A text within a text: its errors are there too, but for the text's end. Plain Lean. No condition. -/
import Derived.Test.YtakcolililbkjaaTclIn
set_option linter.unusedVariables false
set_option linter.unusedSimpArgs false
namespace Go.Proofs.Ytakcolililbkjaa
namespace Tcl
theorem er_braced {U s : List UInt8} {n : Nat} (h : In U s n) (f f' : Nat) : ∀ (k i d p q : Nat), s.length - i ≤ k → braced s f i d = .error (p, q) → q ≠ 5 → braced U f' (n + i) d = .error (n + p, q) := by
  intro k
  induction k with
  | zero =>
    intro i d p q hk hb hq
    rw [braced_none (none_of (by omega))] at hb; cases hb; exact absurd rfl hq
  | succ k ih =>
    intro i d p q hk hb hq
    rcases some_or (s := s) i with ⟨c, hc, hi⟩ | ⟨hc, -⟩
    · rw [braced_some hc] at hb
      rw [braced_some (h.at hc)]
      by_cases h1 : c = 92
      · rw [if_pos h1] at hb ⊢; exact ih (i + 2) d p q (by omega) hb hq
      rw [if_neg h1] at hb ⊢
      by_cases h2 : c = 123
      · rw [if_pos h2] at hb ⊢
        by_cases h3 : d + 1 > 64
        · rw [if_pos h3] at hb ⊢; cases hb; rfl
        · rw [if_neg h3] at hb ⊢; exact ih (i + 1) _ p q (by omega) hb hq
      rw [if_neg h2] at hb ⊢
      by_cases h3 : c = 125
      · rw [if_pos h3] at hb ⊢
        by_cases h4 : d > 1
        · rw [if_pos h4] at hb ⊢; exact ih (i + 1) _ p q (by omega) hb hq
        · rw [if_neg h4] at hb; cases hb
      · rw [if_neg h3] at hb ⊢; exact ih (i + 1) d p q (by omega) hb hq
    · rw [braced_none hc] at hb; cases hb; exact absurd rfl hq
theorem er_parts {U s : List UInt8} {n : Nat} (h : In U s n) (stop : UInt8 → Bool) (f f' : Option Nat) : ∀ (k i : Nat) (l : List Part) (t : List UInt8) (p q : Nat), s.length - i ≤ k → i ≤ s.length → partsGo stop s f i l t = .error (p, q) → q ≠ 5 → partsGo stop U f' (n + i) l t = .error (n + p, q) := by
  intro k
  induction k with
  | zero =>
    intro i l t p q hk hi hp hq
    rw [parts_none (none_of (by omega))] at hp; cases hp
  | succ k ih =>
    intro i l t p q hk hi hp hq
    rcases some_or (s := s) i with ⟨c, hc, hi'⟩ | ⟨hc, hi'⟩
    · rw [parts_some hc] at hp
      rw [parts_some (h.at hc)]
      by_cases h1 : stop c = true
      · rw [if_pos h1] at hp; cases hp
      rw [if_neg h1] at hp ⊢
      by_cases h2 : c = 91
      · rw [if_pos h2] at hp ⊢; cases hp; rfl
      rw [if_neg h2] at hp ⊢
      by_cases h3 : c = 92
      · rw [if_pos h3] at hp ⊢
        cases he : esc s i with
        | none => rw [he] at hp; cases hp; exact absurd rfl hq
        | some x =>
          obtain ⟨x, j'⟩ := x
          have hb := esc_bound he
          rw [he] at hp
          rw [in_esc h he]
          simp only at hp ⊢
          rw [if_pos (by omega)] at hp
          rw [if_pos (by omega)]
          exact ih j' l _ p q (by omega) (by omega) hp hq
      rw [if_neg h3] at hp ⊢
      by_cases h4 : c = 36
      · rw [if_pos h4] at hp ⊢
        rw [show n + i + 1 = n + (i + 1) by omega, in_name h (by omega)]
        have hle := nameLen_le (s.drop (i + 1))
        rw [List.length_drop] at hle
        rw [in_take h (by omega) hle]
        by_cases h5 : 64 < nameLen (s.drop (i + 1))
        · rw [if_pos h5] at hp ⊢; cases hp; rfl
        rw [if_neg h5] at hp ⊢
        by_cases h6 : nameLen (s.drop (i + 1)) = 0
        · rw [if_pos h6] at hp ⊢; exact ih (i + 1) l _ p q (by omega) (by omega) hp hq
        · rw [if_neg h6] at hp ⊢
          rw [show n + (i + 1) + nameLen (s.drop (i + 1)) = n + (i + 1 + nameLen (s.drop (i + 1))) by omega]
          exact ih _ _ _ p q (by omega) (by omega) hp hq
      · rw [if_neg h4] at hp ⊢; exact ih (i + 1) l _ p q (by omega) (by omega) hp hq
    · rw [parts_none hc] at hp; cases hp
theorem er_behind {U s : List UInt8} {n j p q : Nat} (h : In U s n) (hb : behind s j = .error (p, q)) : behind U (n + j) = .error (n + p, q) := by
  unfold behind at hb
  split at hb
  · rename_i c hc
    split at hb
    · cases hb
    · rename_i hst
      cases hb
      exact behind_bad (h.at hc) (by simpa using hst)
  · cases hb
theorem er_word {U s : List UInt8} {n i : Nat} {c : UInt8} (h : In U s n) (hc : s[i]? = some c) {p q : Nat} (hw : word s i c = .error (p, q)) (hq : q ≠ 5) : word U (n + i) c = .error (n + p, q) := by
  have hil := lt_of_some hc
  unfold word at hw
  by_cases h1 : c = 123
  · subst h1
    rw [if_pos rfl] at hw
    unfold word
    rw [if_pos rfl]
    cases hb : braced s i i 0 with
    | error b =>
      rw [hb] at hw
      cases hw
      rw [er_braced h i (n + i) (s.length - i) i 0 p q (Nat.le_refl _) hb hq]
    | ok j' =>
      rw [hb] at hw
      simp only at hw
      rw [in_braced h i (n + i) (s.length - i) i 0 j' (Nat.le_refl _) hb]
      cases hh : behind s j' with
      | error b =>
        rw [hh] at hw
        cases hw
        simp only
        rw [er_behind h hh]
      | ok u => rw [hh] at hw; cases hw
  rw [if_neg h1] at hw
  by_cases h2 : c = 34
  · subst h2
    rw [if_pos rfl] at hw
    unfold word
    rw [if_neg (by decide), if_pos rfl]
    cases hp : partsGo quoteB s (some i) (i + 1) [] [] with
    | error b =>
      rw [hp] at hw
      cases hw
      rw [Nat.add_assoc, er_parts h quoteB (some i) (some (n + i)) (s.length - (i + 1)) (i + 1) [] [] p q (Nat.le_refl _) (by omega) hp hq]
    | ok x =>
      obtain ⟨ps, j'⟩ := x
      rw [hp] at hw
      simp only at hw
      have hbd := parts_bound quoteB s (some i) (s.length - (i + 1)) (i + 1) [] [] ps j' (Nat.le_refl _) (by omega) hp
      by_cases h3 : j' = s.length
      · rw [if_pos h3] at hw; cases hw; exact absurd rfl hq
      rw [if_neg h3] at hw
      rw [Nat.add_assoc, in_parts h quoteB (some i) (some (n + i)) (s.length - (i + 1)) (i + 1) [] [] ps j' (Nat.le_refl _) (by omega) hp (.inr (by omega))]
      have hU : n + j' ≠ U.length := by
        intro e
        have := lt_of_some (h.at (List.getElem?_eq_getElem (show j' < s.length by omega)))
        omega
      simp only
      rw [if_neg hU]
      cases hh : behind s (j' + 1) with
      | error b =>
        rw [hh] at hw
        cases hw
        rw [Nat.add_assoc, er_behind h hh]
      | ok u => rw [hh] at hw; cases hw
  · rw [if_neg h2] at hw
    unfold word
    rw [if_neg h1, if_neg h2]
    cases hp : partsGo stopB s none i [] [] with
    | error b =>
      rw [hp] at hw
      cases hw
      rw [er_parts h stopB none none (s.length - i) i [] [] p q (Nat.le_refl _) (by omega) hp hq]
    | ok x => rw [hp] at hw; cases hw
theorem er_command {U s : List UInt8} {n : Nat} (h : In U s n) : ∀ (k i : Nat) (ws : List Word) (p q : Nat), s.length - i ≤ k → i ≤ s.length → command s i ws = .error (p, q) → q ≠ 5 → command U (n + i) (ws.map (shW n)) = .error (n + p, q) := by
  intro k
  induction k with
  | zero =>
    intro i ws p q hk hi hp hq
    rw [command_none (none_of (by omega))] at hp; cases hp
  | succ k ih =>
    intro i ws p q hk hi hp hq
    rcases some_or (s := s) i with ⟨c, hc, hi'⟩ | ⟨hc, hi'⟩
    · rw [command_some hc] at hp
      rw [command_some (h.at hc)]
      by_cases h1 : endB c = true
      · rw [if_pos h1] at hp; cases hp
      rw [if_neg h1] at hp ⊢
      by_cases h2 : blankB c = true
      · rw [if_pos h2] at hp ⊢; exact ih (i + 1) ws p q (by omega) (by omega) hp hq
      rw [if_neg h2] at hp ⊢
      cases hw : word s i c with
      | error b => rw [hw] at hp; cases hp; rw [er_word h hc hw hq]
      | ok x =>
        obtain ⟨w, j'⟩ := x
        have hst : stopB c = false := by simp [stopB, h1, h2]
        have hbd := word_bound hc hst hw
        rw [hw] at hp
        rw [in_word h hc hw]
        simp only at hp ⊢
        rw [if_pos hbd.1] at hp
        rw [if_pos (by omega)]
        have := ih j' (ws ++ [w]) p q (by omega) (by omega) hp hq
        rw [List.map_append] at this
        exact this
    · rw [command_none hc] at hp; cases hp
theorem er_parse {U s : List UInt8} {n : Nat} (h : In U s n) (L : List Cmd) : ∀ (k i : Nat) (l : List Cmd) (p q : Nat), s.length - i ≤ k → i ≤ s.length → parseGo s i l = .error (p, q) → q ≠ 5 → parseGo U (n + i) (L ++ l.map (shC n)) = .error (n + p, q) := by
  intro k
  induction k with
  | zero =>
    intro i l p q hk hi hp hq
    rw [parse_none (none_of (by omega))] at hp; cases hp
  | succ k ih =>
    intro i l p q hk hi hp hq
    rcases some_or (s := s) i with ⟨c, hc, hi'⟩ | ⟨hc, hi'⟩
    · rw [parse_some hc] at hp
      rw [parse_some (h.at hc)]
      by_cases h1 : stopB c = true
      · rw [if_pos h1] at hp ⊢; exact ih (i + 1) l p q (by omega) (by omega) hp hq
      rw [if_neg h1] at hp ⊢
      by_cases h2 : c = 35
      · rw [if_pos h2] at hp ⊢
        rw [in_line h (by omega)]
        have hle := lineLen_le (s.drop i)
        rw [List.length_drop] at hle
        have hpos : 0 < lineLen (s.drop i) := lineLen_pos (c := c) (by rw [List.getElem?_drop]; exact hc) (by rw [h2]; decide)
        rw [if_pos hpos] at hp ⊢
        rw [show n + i + lineLen (s.drop i) = n + (i + lineLen (s.drop i)) by omega]
        exact ih _ l p q (by omega) (by omega) hp hq
      rw [if_neg h2] at hp ⊢
      cases hw : command s i [] with
      | error b =>
        rw [hw] at hp
        cases hp
        have hU := er_command h (s.length - i) i [] p q (Nat.le_refl _) (by omega) hw hq
        rw [List.map_nil] at hU
        rw [hU]
      | ok x =>
        obtain ⟨ws, j'⟩ := x
        have hend : endB c = false := by simp [stopB] at h1; exact h1.2
        have hbd := command_bound s (s.length - i) i [] ws j' (Nat.le_refl _) (by omega) hw
        have hm := command_more hc hend hw
        rw [hw] at hp
        have hU := in_command h (s.length - i) i [] ws j' (Nat.le_refl _) (by omega) hw
        rw [List.map_nil] at hU
        rw [hU]
        simp only at hp ⊢
        rw [if_pos hm] at hp
        rw [if_pos (by omega)]
        have := ih j' (l ++ [⟨i, ws⟩]) p q (by omega) (by omega) hp hq
        rw [List.map_append, ← List.append_assoc] at this
        exact this
    · rw [parse_none hc] at hp; cases hp
/-- A line's end behind changes nothing, but that a text may end too early. -/
theorem parse_line {s : List UInt8} (hl : s.length + 1 ≤ 16777216) : (∀ cs, parse s = .ok cs → parse (s ++ [10]) = .ok cs) ∧ ∀ p q, parse s = .error (p, q) → q ≠ 5 → parse (s ++ [10]) = .error (p, q) := by
  have hs : parse s = parseGo s 0 [] := by unfold parse; rw [if_neg (by omega)]
  have hu : parse (s ++ [10]) = parseGo (s ++ [10]) 0 [] := by unfold parse; rw [if_neg (by simp; omega)]
  rw [hs, hu]
  refine ⟨fun cs h => ?_, fun p q h hq => ?_⟩
  · have h0 : parseGo ([] : List UInt8) 0 [] = .ok [] := by rw [parse_none rfl]
    have := joins h h0
    simpa using this
  · have hin : In (s ++ [10]) s 0 := ⟨[10], by simp, .inr ⟨[], rfl⟩⟩
    have := er_parse hin [] (s.length - 0) 0 [] p q (Nat.le_refl _) (by omega) h hq
    simpa using this
end Tcl
end Go.Proofs.Ytakcolililbkjaa
