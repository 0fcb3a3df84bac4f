/- A text within a text: its commands are there too, so much further on. Plain Lean. No condition. -/
import Derived.Test.YtakcolililbkjaaTclEqs
import Derived.Test.YtakcolililbkjaaTclWd
set_option linter.unusedVariables false
set_option linter.unusedSimpArgs false
namespace Go.Proofs.Ytakcolililbkjaa
namespace Tcl
/-- From `n` on stands `s`, and behind it nothing, or a line's end. -/
def In (U s : List UInt8) (n : Nat) : Prop := ∃ tl, U.drop n = s ++ tl ∧ (tl = [] ∨ ∃ t, tl = 10 :: t)
def shW (n : Nat) (w : Word) : Word := ⟨n + w.at_, w.kind, w.parts⟩
def shC (n : Nat) (c : Cmd) : Cmd := ⟨n + c.at_, c.words.map (shW n)⟩
theorem In.at {U s : List UInt8} {n i : Nat} {c : UInt8} (h : In U s n) (hc : s[i]? = some c) : U[n + i]? = some c := by
  obtain ⟨tl, h1, -⟩ := h
  rw [← List.getElem?_drop, h1, List.getElem?_append_left (lt_of_some hc), hc]
theorem In.end {U s : List UInt8} {n i : Nat} (h : In U s n) (hi : i = s.length) : U[n + i]? = none ∨ U[n + i]? = some 10 := by
  obtain ⟨tl, h1, h2⟩ := h
  subst hi
  rw [← List.getElem?_drop, h1, List.getElem?_append_right (Nat.le_refl _), Nat.sub_self]
  rcases h2 with rfl | ⟨t, rfl⟩
  · exact .inl rfl
  · exact .inr rfl
theorem In.drop {U s : List UInt8} {n i : Nat} (h : In U s n) (hi : i ≤ s.length) : In U (s.drop i) (n + i) := by
  obtain ⟨tl, h1, h2⟩ := h
  refine ⟨tl, ?_, h2⟩
  rw [← List.drop_drop, h1, List.drop_append_of_le_length hi]
theorem none_of {s : List UInt8} {i : Nat} (h : s.length ≤ i) : s[i]? = none := List.getElem?_eq_none h
theorem some_or {s : List UInt8} (i : Nat) : (∃ c, s[i]? = some c ∧ i < s.length) ∨ (s[i]? = none ∧ s.length ≤ i) := by
  cases h : s[i]? with
  | some c => exact .inl ⟨c, rfl, lt_of_some h⟩
  | none => exact .inr ⟨rfl, by simpa using h⟩
theorem in_braced {U s : List UInt8} {n : Nat} (h : In U s n) (f f' : Nat) : ∀ (k i d j : Nat), s.length - i ≤ k → braced s f i d = .ok j → braced U f' (n + i) d = .ok (n + j) := by
  intro k
  induction k with
  | zero =>
    intro i d j hk hb
    rw [braced_none (none_of (by omega))] at hb; cases hb
  | succ k ih =>
    intro i d j hk hb
    rcases some_or (s := s) i with ⟨c, hc, hi⟩ | ⟨hc, -⟩
    · rw [braced_some hc] at hb
      rw [braced_some (h.at hc)]
      by_cases h1 : c = 92
      · rw [if_pos h1] at hb ⊢; exact ih (i + 2) d j (by omega) hb
      rw [if_neg h1] at hb ⊢
      by_cases h2 : c = 123
      · rw [if_pos h2] at hb ⊢
        by_cases h3 : d + 1 > 64
        · rw [if_pos h3] at hb; cases hb
        · rw [if_neg h3] at hb ⊢; exact ih (i + 1) _ j (by omega) hb
      rw [if_neg h2] at hb ⊢
      by_cases h3 : c = 125
      · rw [if_pos h3] at hb ⊢
        by_cases h4 : d > 1
        · rw [if_pos h4] at hb ⊢; exact ih (i + 1) _ j (by omega) hb
        · rw [if_neg h4] at hb ⊢; cases hb; rfl
      · rw [if_neg h3] at hb ⊢; exact ih (i + 1) d j (by omega) hb
    · rw [braced_none hc] at hb; cases hb
theorem in_octals {U s : List UInt8} {n : Nat} (h : In U s n) : ∀ (m i x : Nat), i ≤ s.length → octals U (n + i) m x = ((octals s i m x).1, n + (octals s i m x).2) := by
  intro m
  induction m with
  | zero => intro i x _; rfl
  | succ m ih =>
    intro i x hi
    rcases some_or (s := s) i with ⟨c, hc, hi⟩ | ⟨hc, hi2⟩
    · rw [octals, octals, hc, h.at hc]
      simp only
      split
      · exact ih (i + 1) _ (by omega)
      · rfl
    · rw [octals, octals, hc]
      rcases h.end (i := i) (by omega) with e | e <;> rw [e] <;> rfl
theorem in_esc {U s : List UInt8} {n i : Nat} (h : In U s n) {x : UInt8} {j : Nat} (he : esc s i = some (x, j)) : esc U (n + i) = some (x, n + j) := by
  unfold esc at he ⊢
  rcases some_or (s := s) (i + 1) with ⟨c, hc, hi⟩ | ⟨hc, -⟩
  · rw [hc] at he
    rw [show n + i + 1 = n + (i + 1) by omega, h.at hc]
    simp only at he ⊢
    rw [in_octals h 3 (i + 1) 0 (by omega)]
    split at he
    · rename_i ho
      rw [if_pos ho]
      simp only [Option.some.injEq, Prod.mk.injEq] at he ⊢
      exact ⟨he.1, by rw [he.2]⟩
    · rename_i ho
      rw [if_neg ho]
      simp only [Option.some.injEq, Prod.mk.injEq] at he ⊢
      exact ⟨he.1, by omega⟩
  · rw [hc] at he; cases he
theorem nameLen_in (s tl : List UInt8) (h : tl = [] ∨ ∃ t, tl = 10 :: t) : nameLen (s ++ tl) = nameLen s := by
  induction s with
  | nil => rcases h with rfl | ⟨t, rfl⟩ <;> rfl
  | cons c s ih => simp only [List.cons_append, nameLen, ih]
theorem lineLen_in (s tl : List UInt8) (h : tl = [] ∨ ∃ t, tl = 10 :: t) : lineLen (s ++ tl) = lineLen s := by
  induction s with
  | nil => rcases h with rfl | ⟨t, rfl⟩ <;> rfl
  | cons c s ih => simp only [List.cons_append, lineLen, ih]
theorem in_name {U s : List UInt8} {n i : Nat} (h : In U s n) (hi : i ≤ s.length) : nameLen (U.drop (n + i)) = nameLen (s.drop i) := by
  obtain ⟨tl, h1, h2⟩ := h.drop hi
  rw [h1, nameLen_in _ _ h2]
theorem in_line {U s : List UInt8} {n i : Nat} (h : In U s n) (hi : i ≤ s.length) : lineLen (U.drop (n + i)) = lineLen (s.drop i) := by
  obtain ⟨tl, h1, h2⟩ := h.drop hi
  rw [h1, lineLen_in _ _ h2]
theorem in_take {U s : List UInt8} {n i m : Nat} (h : In U s n) (hi : i ≤ s.length) (hm : m ≤ s.length - i) : (U.drop (n + i)).take m = (s.drop i).take m := by
  obtain ⟨tl, h1, h2⟩ := h.drop hi
  rw [h1, List.take_append_of_le_length (by rw [List.length_drop]; exact hm)]
theorem in_sub {U s : List UInt8} {n a b : Nat} (h : In U s n) (hb : b ≤ s.length) : sub U (n + a) (n + b) = sub s a b := by
  obtain ⟨tl, h1, h2⟩ := h
  unfold sub
  rw [← List.drop_drop, ← List.take_drop, h1, List.take_append_of_le_length hb]
theorem in_parts {U s : List UInt8} {n : Nat} (h : In U s n) (stop : UInt8 → Bool) (f f' : Option Nat) : ∀ (k i : Nat) (l : List Part) (t : List UInt8) (r : List Part) (j : Nat), s.length - i ≤ k → i ≤ s.length → partsGo stop s f i l t = .ok (r, j) → (stop 10 = true ∨ j < s.length) →
    partsGo stop U f' (n + i) l t = .ok (r, n + j) := by
  intro k
  induction k with
  | zero =>
    intro i l t r j hk hi hp hs
    obtain rfl : i = s.length := by omega
    rw [parts_none (none_of (Nat.le_refl _))] at hp
    cases hp
    rcases hs with hs | hs
    · rcases h.end rfl with e | e
      · rw [parts_none e]
      · rw [parts_some e, if_pos hs]
    · omega
  | succ k ih =>
    intro i l t r j hk hi hp hs
    rcases some_or (s := s) i with ⟨c, hc, hi'⟩ | ⟨hc, hi'⟩
    · rw [parts_some hc] at hp
      rw [parts_some (h.at hc)]
      by_cases h1 : stop c = true
      · rw [if_pos h1] at hp ⊢; cases hp; rfl
      rw [if_neg h1] at hp ⊢
      by_cases h2 : c = 91
      · rw [if_pos h2] at hp; cases hp
      rw [if_neg h2] at hp ⊢
      by_cases h3 : c = 92
      · rw [if_pos h3] at hp ⊢
        cases he : esc s i with
        | none => rw [he] at hp; cases hp
        | some p =>
          obtain ⟨x, j'⟩ := p
          have hb := esc_bound he
          rw [he] at hp
          rw [in_esc h he]
          simp only at hp ⊢
          rw [if_pos (by omega)] at hp
          rw [if_pos (by omega)]
          exact ih j' l _ r j (by omega) (by omega) hp hs
      rw [if_neg h3] at hp ⊢
      by_cases h4 : c = 36
      · rw [if_pos h4] at hp ⊢
        rw [show n + i + 1 = n + (i + 1) by omega, in_name h (by omega)]
        have hle := nameLen_le (s.drop (i + 1))
        rw [List.length_drop] at hle
        rw [in_take h (by omega) hle]
        by_cases h5 : 64 < nameLen (s.drop (i + 1))
        · rw [if_pos h5] at hp; cases hp
        rw [if_neg h5] at hp ⊢
        by_cases h6 : nameLen (s.drop (i + 1)) = 0
        · rw [if_pos h6] at hp ⊢; exact ih (i + 1) l _ r j (by omega) (by omega) hp hs
        · rw [if_neg h6] at hp ⊢
          rw [show n + (i + 1) + nameLen (s.drop (i + 1)) = n + (i + 1 + nameLen (s.drop (i + 1))) by omega]
          exact ih _ _ _ r j (by omega) (by omega) hp hs
      · rw [if_neg h4] at hp ⊢; exact ih (i + 1) l _ r j (by omega) (by omega) hp hs
    · obtain rfl : i = s.length := by omega
      rw [parts_none hc] at hp
      cases hp
      rcases hs with hs | hs
      · rcases h.end rfl with e | e
        · rw [parts_none e]
        · rw [parts_some e, if_pos hs]
      · omega
theorem in_behind {U s : List UInt8} {n j : Nat} (h : In U s n) (hj : j ≤ s.length) (hb : behind s j = .ok ()) : behind U (n + j) = .ok () := by
  rcases some_or (s := s) j with ⟨c, hc, hi⟩ | ⟨hc, hi⟩
  · cases hst : stopB c with
    | true => exact behind_ok (h.at hc) hst
    | false => rw [behind_bad hc hst] at hb; cases hb
  · rcases h.end (i := j) (by omega) with e | e
    · unfold behind; rw [e]
    · exact behind_ok e (by decide)
theorem in_word {U s : List UInt8} {n i : Nat} {c : UInt8} (h : In U s n) (hc : s[i]? = some c) {w : Word} {j : Nat} (hw : word s i c = .ok (w, j)) : word U (n + i) c = .ok (shW n w, n + j) := by
  have hil := lt_of_some hc
  unfold word at hw
  by_cases h1 : c = 123
  · subst h1
    rw [if_pos rfl] at hw
    cases hb : braced s i i 0 with
    | error b => rw [hb] at hw; cases hw
    | ok j' =>
      rw [hb] at hw
      simp only at hw
      have hbd := braced_bound s i (s.length - i) i 0 j' (Nat.le_refl _) hb
      cases hh : behind s j' with
      | error b => rw [hh] at hw; cases hw
      | ok u =>
        rw [hh] at hw
        simp only [Except.ok.injEq, Prod.mk.injEq] at hw
        obtain ⟨rfl, rfl⟩ := hw
        rw [word_b_ok (in_braced h i (n + i) (s.length - i) i 0 j' (Nat.le_refl _) hb) (in_behind h hbd.2 hh)]
        simp only [shW, Except.ok.injEq, Prod.mk.injEq, and_true, Word.mk.injEq, true_and]
        by_cases h2 : j' = i + 2
        · rw [if_pos h2, if_pos (by omega)]
        · rw [if_neg h2, if_neg (by omega), show n + i + 1 = n + (i + 1) by omega, show n + j' - 1 = n + (j' - 1) by omega, in_sub h (by omega)]
  rw [if_neg h1] at hw
  by_cases h2 : c = 34
  · subst h2
    rw [if_pos rfl] at hw
    cases hp : partsGo quoteB s (some i) (i + 1) [] [] with
    | error b => rw [hp] at hw; cases hw
    | ok p =>
      obtain ⟨ps, j'⟩ := p
      rw [hp] at hw
      simp only at hw
      have hbd := parts_bound quoteB s (some i) (s.length - (i + 1)) (i + 1) [] [] ps j' (Nat.le_refl _) (by omega) hp
      by_cases h3 : j' = s.length
      · rw [if_pos h3] at hw; cases hw
      rw [if_neg h3] at hw
      cases hh : behind s (j' + 1) with
      | error b => rw [hh] at hw; cases hw
      | ok u =>
        rw [hh] at hw
        simp only [Except.ok.injEq, Prod.mk.injEq] at hw
        obtain ⟨rfl, rfl⟩ := hw
        have hU : n + j' ≠ U.length := by
          intro e
          have := lt_of_some (h.at (List.getElem?_eq_getElem (show j' < s.length by omega)))
          omega
        exact word_q_ok (in_parts h quoteB (some i) (some (n + i)) (s.length - (i + 1)) (i + 1) [] [] ps j' (Nat.le_refl _) (by omega) hp (.inr (by omega))) hU (in_behind (j := j' + 1) h (by omega) hh)
  · rw [if_neg h2] at hw
    cases hp : partsGo stopB s none i [] [] with
    | error b => rw [hp] at hw; cases hw
    | ok p =>
      obtain ⟨ps, j'⟩ := p
      rw [hp] at hw
      simp only [Except.ok.injEq, Prod.mk.injEq] at hw
      obtain ⟨rfl, rfl⟩ := hw
      exact word_bare_ok h1 h2 (in_parts h stopB none none (s.length - i) i [] [] ps j' (Nat.le_refl _) (by omega) hp (.inl (by decide)))
theorem in_command {U s : List UInt8} {n : Nat} (h : In U s n) : ∀ (k i : Nat) (ws r : List Word) (j : Nat), s.length - i ≤ k → i ≤ s.length → command s i ws = .ok (r, j) → command U (n + i) (ws.map (shW n)) = .ok (r.map (shW n), n + j) := by
  intro k
  induction k with
  | zero =>
    intro i ws r j hk hi hp
    obtain rfl : i = s.length := by omega
    rw [command_none (none_of (Nat.le_refl _))] at hp
    cases hp
    rcases h.end rfl with e | e
    · rw [command_none e]
    · rw [command_some e, if_pos (by decide)]
  | succ k ih =>
    intro i ws r j hk hi hp
    rcases some_or (s := s) i with ⟨c, hc, hi'⟩ | ⟨hc, hi'⟩
    · rw [command_some hc] at hp
      rw [command_some (h.at hc)]
      by_cases h1 : endB c = true
      · rw [if_pos h1] at hp ⊢; cases hp; rfl
      rw [if_neg h1] at hp ⊢
      by_cases h2 : blankB c = true
      · rw [if_pos h2] at hp ⊢; exact ih (i + 1) ws r j (by omega) (by omega) hp
      rw [if_neg h2] at hp ⊢
      cases hw : word s i c with
      | error b => rw [hw] at hp; cases hp
      | ok p =>
        obtain ⟨w, j'⟩ := p
        have hst : stopB c = false := by simp [stopB, h1, h2]
        have hbd := word_bound hc hst hw
        rw [hw] at hp
        rw [in_word h hc hw]
        simp only at hp ⊢
        rw [if_pos hbd.1] at hp
        rw [if_pos (by omega)]
        have := ih j' (ws ++ [w]) r j (by omega) (by omega) hp
        rw [List.map_append] at this
        exact this
    · obtain rfl : i = s.length := by omega
      rw [command_none hc] at hp
      cases hp
      rcases h.end rfl with e | e
      · rw [command_none e]
      · rw [command_some e, if_pos (by decide)]
theorem in_parse {U s : List UInt8} {n : Nat} (h : In U s n) (L : List Cmd) : ∀ (k i : Nat) (l r : List Cmd), s.length - i ≤ k → i ≤ s.length → parseGo s i l = .ok r → parseGo U (n + i) (L ++ l.map (shC n)) = parseGo U (n + s.length) (L ++ r.map (shC n)) := by
  intro k
  induction k with
  | zero =>
    intro i l r hk hi hp
    obtain rfl : i = s.length := by omega
    rw [parse_none (none_of (Nat.le_refl _))] at hp
    cases hp; rfl
  | succ k ih =>
    intro i l r hk hi hp
    rcases some_or (s := s) i with ⟨c, hc, hi'⟩ | ⟨hc, hi'⟩
    · rw [parse_some hc] at hp
      rw [parse_some (h.at hc)]
      by_cases h1 : stopB c = true
      · rw [if_pos h1] at hp ⊢; exact ih (i + 1) l r (by omega) (by omega) hp
      rw [if_neg h1] at hp ⊢
      by_cases h2 : c = 35
      · rw [if_pos h2] at hp ⊢
        rw [in_line h (by omega)]
        have hle := lineLen_le (s.drop i)
        rw [List.length_drop] at hle
        by_cases h3 : 0 < lineLen (s.drop i)
        · rw [if_pos h3] at hp ⊢
          rw [show n + i + lineLen (s.drop i) = n + (i + lineLen (s.drop i)) by omega]
          exact ih _ l r (by omega) (by omega) hp
        · rw [if_neg h3] at hp; cases hp
      rw [if_neg h2] at hp ⊢
      cases hw : command s i [] with
      | error b => rw [hw] at hp; cases hp
      | ok p =>
        obtain ⟨ws, j'⟩ := p
        have hend : endB c = false := by simp [stopB] at h1; exact h1.2
        have hbd := command_bound s (s.length - i) i [] ws j' (Nat.le_refl _) (by omega) hw
        have hm := command_more hc hend hw
        rw [hw] at hp
        have hU := in_command h (s.length - i) i [] ws j' (Nat.le_refl _) (by omega) hw
        rw [List.map_nil] at hU
        rw [hU]
        simp only at hp ⊢
        rw [if_pos hm] at hp
        rw [if_pos (by omega)]
        have := ih j' (l ++ [⟨i, ws⟩]) r (by omega) (by omega) hp
        rw [List.map_append, ← List.append_assoc] at this
        exact this
    · obtain rfl : i = s.length := by omega
      rw [parse_none hc] at hp
      cases hp; rfl
theorem shW_zero (w : Word) : shW 0 w = w := by unfold shW; rw [Nat.zero_add]
theorem shC_zero (c : Cmd) : shC 0 c = c := by
  unfold shC; rw [Nat.zero_add, show shW 0 = id from funext shW_zero, List.map_id]
/-- Two texts with a line's end between. -/
theorem joins {s t : List UInt8} {A B : List Cmd} (hs : parseGo s 0 [] = .ok A) (ht : parseGo t 0 [] = .ok B) : parseGo (s ++ 10 :: t) 0 [] = .ok (A ++ B.map (shC (s.length + 1))) := by
  have h1 : In (s ++ 10 :: t) s 0 := ⟨10 :: t, rfl, .inr ⟨t, rfl⟩⟩
  have h2 : In (s ++ 10 :: t) t (s.length + 1) := ⟨[], by rw [List.append_nil, List.drop_append, List.drop_eq_nil_of_le (by omega)]; simp, .inl rfl⟩
  have e1 := in_parse h1 [] s.length 0 [] A (by omega) (by omega) hs
  have e2 := in_parse h2 A t.length 0 [] B (by omega) (by omega) ht
  rw [show shC 0 = id from funext shC_zero, List.map_nil, List.map_id, List.nil_append, List.nil_append, Nat.zero_add, Nat.zero_add] at e1
  rw [List.map_nil, List.append_nil, Nat.add_zero] at e2
  have h10 : (s ++ 10 :: t)[s.length]? = some 10 := by rw [List.getElem?_append_right (Nat.le_refl _), Nat.sub_self]; rfl
  rw [e1, parse_some h10, if_pos (by decide), e2, parse_none (none_of (by simp; omega))]
/-- A command's place lies in the text. -/
theorem parse_places (s : List UInt8) : ∀ (k i : Nat) (l r : List Cmd), s.length - i ≤ k → (∀ c ∈ l, c.at_ < s.length) → parseGo s i l = .ok r → ∀ c ∈ r, c.at_ < s.length := by
  intro k
  induction k with
  | zero =>
    intro i l r hk hl hp
    rw [parse_none (none_of (by omega))] at hp
    cases hp; exact hl
  | succ k ih =>
    intro i l r hk hl hp
    rcases some_or (s := s) i with ⟨c, hc, hi'⟩ | ⟨hc, hi'⟩
    · rw [parse_some hc] at hp
      by_cases h1 : stopB c = true
      · rw [if_pos h1] at hp; exact ih (i + 1) l r (by omega) hl hp
      rw [if_neg h1] at hp
      by_cases h2 : c = 35
      · rw [if_pos h2] at hp
        by_cases h3 : 0 < lineLen (s.drop i)
        · rw [if_pos h3] at hp; exact ih _ l r (by omega) hl hp
        · rw [if_neg h3] at hp; cases hp
      rw [if_neg h2] at hp
      cases hw : command s i [] with
      | error b => rw [hw] at hp; cases hp
      | ok p =>
        obtain ⟨ws, j'⟩ := p
        rw [hw] at hp
        simp only at hp
        by_cases h3 : i < j'
        · rw [if_pos h3] at hp
          refine ih j' _ r (by omega) (fun c hc => ?_) hp
          rcases List.mem_append.1 hc with hc | hc
          · exact hl c hc
          · simp at hc; subst hc; exact hi'
        · rw [if_neg h3] at hp; cases hp
    · rw [parse_none hc] at hp
      cases hp; exact hl
end Tcl
end Go.Proofs.Ytakcolililbkjaa
