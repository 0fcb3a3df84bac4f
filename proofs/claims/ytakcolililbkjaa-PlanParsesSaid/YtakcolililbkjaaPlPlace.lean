/- Where words stand in a text, in plain Lean. No condition. -/
import Derived.Test.YtakcolililbkjaaPlSpec
set_option linter.unusedVariables false
set_option linter.unusedSimpArgs false
namespace Go.Proofs.Ytakcolililbkjaa
namespace Plan
open Tcl
/-- A word within `m` bytes. -/
def Inn (m : Nat) (w : Word) : Prop := w.at_ < m ∧ (w.kind = 2 → w.at_ + 2 + (openT w).length ≤ m)
theorem word_place {s : List UInt8} {i : Nat} {c : UInt8} {w : Word} {j : Nat} (hc : s[i]? = some c) (h : word s i c = .ok (w, j)) : w.at_ = i ∧ (w.kind = 2 → i + 2 + (openT w).length ≤ j) := by
  unfold word at h
  split at h
  · rename_i h123
    split at h
    · cases h
    · rename_i j' hb
      split at h
      · cases h
      · cases h
        refine ⟨rfl, fun _ => ?_⟩
        rw [braced_some hc, if_neg (by rw [h123]; decide), if_pos h123, if_neg (by decide)] at hb
        have := braced_bound s i (s.length - (i + 1)) (i + 1) (0 + 1) j (Nat.le_refl _) hb
        unfold openT
        simp only
        split
        · simp; omega
        · simp [sub]; omega
  · split at h
    · split at h
      · cases h
      · split at h
        · cases h
        · split at h
          · cases h
          · cases h; exact ⟨rfl, fun h => by simp at h⟩
    · split at h
      · cases h
      · cases h; exact ⟨rfl, fun h => by simp at h⟩
theorem command_places {s : List UInt8} : ∀ (k i : Nat) (ws r : List Word) (j : Nat), s.length - i ≤ k → i ≤ s.length → command s i ws = .ok (r, j) → (∀ w ∈ ws, Inn s.length w) → (∃ r', r = ws ++ r' ∧ r'.length + i ≤ j) ∧ ∀ w ∈ r, Inn s.length w := by
  intro k
  induction k with
  | zero =>
    intro i ws r j hk hi h hw
    have hn : s[i]? = none := List.getElem?_eq_none (by omega)
    rw [command_none hn] at h
    cases h
    exact ⟨⟨[], by simp, by simp⟩, hw⟩
  | succ k ih =>
    intro i ws r j hk hi h hw
    cases hc : s[i]? with
    | none => rw [command_none hc] at h; cases h; exact ⟨⟨[], by simp, by simp⟩, hw⟩
    | some c =>
      have hl := lt_of_some hc
      rw [command_some hc] at h
      split at h
      · cases h; exact ⟨⟨[], by simp, by simp⟩, hw⟩
      · split at h
        · obtain ⟨⟨r', h1, h2⟩, h3⟩ := ih _ _ _ _ (by omega) (by omega) h hw
          exact ⟨⟨r', h1, by omega⟩, h3⟩
        · rename_i he hb
          split at h
          · cases h
          · rename_i w j' hwd
            have hb2 := word_bound hc (by simp [stopB]; exact ⟨by simpa using hb, by simpa using he⟩) hwd
            have hp := word_place hc hwd
            split at h
            · obtain ⟨⟨r', h1, h2⟩, h3⟩ := ih _ _ _ _ (by omega) (by omega) h (fun x hx => by
                rcases List.mem_append.1 hx with hx | hx
                · exact hw x hx
                · simp at hx; subst hx
                  exact ⟨by omega, fun h2 => by have := hp.2 h2; omega⟩)
              refine ⟨⟨w :: r', by rw [h1]; simp, by simp; omega⟩, h3⟩
            · cases h
/-- A command that begins at a word. -/
theorem command_head {s : List UInt8} {i : Nat} {c : UInt8} {r : List Word} {j : Nat} (hc : s[i]? = some c) (hs : stopB c = false) (h : command s i [] = .ok (r, j)) : (∃ w0 r', r = w0 :: r' ∧ w0.at_ = i) ∧ r.length + i ≤ j ∧ ∀ w ∈ r, Inn s.length w := by
  have hl := lt_of_some hc
  obtain ⟨⟨r', h1, h2⟩, h3⟩ := command_places (s.length - i) i [] r j (Nat.le_refl _) (by omega) h (by simp)
  refine ⟨?_, by rw [h1]; simpa using h2, h3⟩
  simp [stopB] at hs
  rw [command_some hc, if_neg (by rw [hs.2]; decide), if_neg (by rw [hs.1]; decide)] at h
  split at h
  · cases h
  · rename_i w j' hwd
    have hp := word_place hc hwd
    have hb2 := word_bound hc (by simp [stopB]; exact hs) hwd
    split at h
    · obtain ⟨⟨r', h1, h2⟩, h3⟩ := command_places (s.length - j') j' [w] r j (Nat.le_refl _) (by omega) h (fun x hx => by
        simp at hx; subst hx
        exact ⟨by omega, fun h2 => by have := hp.2 h2; omega⟩)
      exact ⟨w, r', by rw [h1]; rfl, hp.1⟩
    · cases h
/-- Commands in their order, ahead of `i`. -/
def Row (m i : Nat) (l : List Cmd) : Prop :=
  (∀ c ∈ l, c.at_ < i ∧ (∃ w0 r, c.words = w0 :: r ∧ w0.at_ = c.at_) ∧ ∀ w ∈ c.words, Inn m w) ∧ (∀ (a b : Nat) (c d : Cmd), a < b → l[a]? = some c → l[b]? = some d → c.at_ < d.at_) ∧ (l.map (fun c => c.words.length)).sum ≤ i ∧ l.length ≤ i
theorem Row.mono {m i j : Nat} {l : List Cmd} (h : Row m i l) (hij : i ≤ j) : Row m j l := by
  refine ⟨fun c hc => ?_, h.2.1, by have := h.2.2.1; omega, by have := h.2.2.2; omega⟩
  have := h.1 c hc
  exact ⟨by omega, this.2⟩
theorem Row.snoc {m i j : Nat} {l : List Cmd} {ws : List Word} (h : Row m i l) (hij : i < j) (hw : (∃ w0 r', ws = w0 :: r' ∧ w0.at_ = i) ∧ ws.length + i ≤ j ∧ ∀ w ∈ ws, Inn m w) : Row m j (l ++ [⟨i, ws⟩]) := by
  refine ⟨fun c hc => ?_, fun a b c d hab ha hb => ?_, ?_, ?_⟩
  · rcases List.mem_append.1 hc with hc | hc
    · have := h.1 c hc; exact ⟨by omega, this.2⟩
    · simp at hc; subst hc
      exact ⟨hij, hw.1, hw.2.2⟩
  · have hbl : b < (l ++ [(⟨i, ws⟩ : Cmd)]).length := (List.getElem?_eq_some_iff.1 hb).1
    simp at hbl
    rw [List.getElem?_append_left (by omega)] at ha
    by_cases hbb : b < l.length
    · rw [List.getElem?_append_left hbb] at hb
      exact h.2.1 a b c d hab ha hb
    · rw [List.getElem?_append_right (by omega), show b - l.length = 0 by omega] at hb
      simp at hb; subst hb
      exact (h.1 c (List.mem_of_getElem? ha)).1
  · have := h.2.2.1
    simp only [List.map_append, List.sum_append, List.map_cons, List.map_nil, List.sum_cons, List.sum_nil]
    have := hw.2.1
    omega
  · have := h.2.2.2
    simp; omega
theorem parseGo_places {s : List UInt8} : ∀ (k i : Nat) (l r : List Cmd), s.length - i ≤ k → i ≤ s.length → parseGo s i l = .ok r → Row s.length i l → Row s.length s.length r := by
  intro k
  induction k with
  | zero =>
    intro i l r hk hi h hr
    rw [parse_none (List.getElem?_eq_none (by omega))] at h
    cases h
    exact hr.mono hi
  | succ k ih =>
    intro i l r hk hi h hr
    cases hc : s[i]? with
    | none => rw [parse_none hc] at h; cases h; exact hr.mono hi
    | some c =>
      have hl := lt_of_some hc
      rw [parse_some hc] at h
      split at h
      · exact ih _ _ _ (by omega) (by omega) h (hr.mono (by omega))
      · rename_i hst
        split at h
        · split at h
          · have hll := lineLen_le (s.drop i)
            rw [List.length_drop] at hll
            exact ih _ _ _ (by omega) (by omega) h (hr.mono (by omega))
          · cases h
        · split at h
          · cases h
          · rename_i ws j hcm
            have hb := command_bound s (s.length - i) i [] ws j (Nat.le_refl _) (by omega) hcm
            split at h
            · rename_i hij
              exact ih _ _ _ (by omega) (by omega) h (hr.snoc hij (command_head hc (by simpa using hst) hcm))
            · cases h
theorem parse_row {s : List UInt8} {cs : List Cmd} (h : parse s = .ok cs) : Row s.length s.length cs := by
  unfold parse at h
  split at h
  · cases h
  · exact parseGo_places (s.length - 0) 0 [] cs (Nat.le_refl _) (by omega) h ⟨by simp, by simp, by simp, by simp⟩
end Plan
end Go.Proofs.Ytakcolililbkjaa
