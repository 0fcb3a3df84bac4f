/- Scripts in plain Lean: equations, and how far each goes. No condition. -/
import Derived.Test.YtncoedoiakaedaaDoorTclSpec
set_option linter.unusedVariables false
set_option linter.unusedSimpArgs false
namespace Go.Proofs.YtncoedoiakaedaaDoor
namespace Tcl
theorem braced_none {s : List UInt8} {f i d : Nat} (h : s[i]? = none) : braced s f i d = .error (f, 5) := by
  rw [braced]
  split
  · rfl
  · rename_i c h'; rw [h] at h'; cases h'
theorem braced_some {s : List UInt8} {f i d : Nat} {c : UInt8} (h : s[i]? = some c) : braced s f i d =
    if c = 92 then braced s f (i + 2) d
    else if c = 123 then if d + 1 > 64 then .error (i, 7) else braced s f (i + 1) (d + 1)
    else if c = 125 then if d > 1 then braced s f (i + 1) (d - 1) else .ok (i + 1)
    else braced s f (i + 1) d := by
  rw [braced]
  split
  · rename_i h'; rw [h] at h'; cases h'
  · rename_i c' h'; rw [h] at h'; cases h'; rfl
theorem parts_none {stop : UInt8 → Bool} {s : List UInt8} {f : Option Nat} {i : Nat} {l : List Part} {t : List UInt8} (h : s[i]? = none) : partsGo stop s f i l t = .ok (flush l t, i) := by
  rw [partsGo]
  split
  · rfl
  · rename_i c h'; rw [h] at h'; cases h'
theorem parts_some {stop : UInt8 → Bool} {s : List UInt8} {f : Option Nat} {i : Nat} {l : List Part} {t : List UInt8} {c : UInt8} (h : s[i]? = some c) : partsGo stop s f i l t =
    if stop c then .ok (flush l t, i)
    else if c = 91 then .error (i, 4)
    else if c = 92 then
      match esc s i with
      | none => .error (f.getD i, 5)
      | some (x, j) => if i < j then partsGo stop s f j l (t ++ [x]) else .error (0, 0)
    else if c = 36 then
      if 64 < nameLen (s.drop (i + 1)) then .error (i, 6)
      else if nameLen (s.drop (i + 1)) = 0 then partsGo stop s f (i + 1) l (t ++ [c])
      else partsGo stop s f (i + 1 + nameLen (s.drop (i + 1))) (flush l t ++ [⟨true, (s.drop (i + 1)).take (nameLen (s.drop (i + 1)))⟩]) []
    else partsGo stop s f (i + 1) l (t ++ [c]) := by
  rw [partsGo]
  split
  · rename_i h'; rw [h] at h'; cases h'
  · rename_i c' h'; rw [h] at h'; cases h'; rfl
theorem command_none {s : List UInt8} {i : Nat} {ws : List Word} (h : s[i]? = none) : command s i ws = .ok (ws, i) := by
  rw [command]
  split
  · rfl
  · rename_i c h'; rw [h] at h'; cases h'
theorem command_some {s : List UInt8} {i : Nat} {ws : List Word} {c : UInt8} (h : s[i]? = some c) : command s i ws =
    if endB c then .ok (ws, i)
    else if blankB c then command s (i + 1) ws
    else match word s i c with
      | .error b => .error b
      | .ok (w, j) => if i < j then command s j (ws ++ [w]) else .error (0, 0) := by
  rw [command]
  split
  · rename_i h'; rw [h] at h'; cases h'
  · rename_i c' h'; rw [h] at h'; cases h'; rfl
theorem parse_none {s : List UInt8} {i : Nat} {l : List Cmd} (h : s[i]? = none) : parseGo s i l = .ok l := by
  rw [parseGo]
  split
  · rfl
  · rename_i c h'; rw [h] at h'; cases h'
theorem parse_some {s : List UInt8} {i : Nat} {l : List Cmd} {c : UInt8} (h : s[i]? = some c) : parseGo s i l =
    if stopB c then parseGo s (i + 1) l
    else if c = 35 then if 0 < lineLen (s.drop i) then parseGo s (i + lineLen (s.drop i)) l else .error (0, 0)
    else match command s i [] with
      | .error b => .error b
      | .ok (ws, j) => if i < j then parseGo s j (l ++ [⟨i, ws⟩]) else .error (0, 0) := by
  rw [parseGo]
  split
  · rename_i h'; rw [h] at h'; cases h'
  · rename_i c' h'; rw [h] at h'; cases h'; rfl

theorem lt_of_some {s : List UInt8} {i : Nat} {c : UInt8} (h : s[i]? = some c) : i < s.length := (List.getElem?_eq_some_iff.1 h).1
theorem nameLen_le (l : List UInt8) : nameLen l ≤ l.length := by
  induction l with
  | nil => exact Nat.le_refl _
  | cons c r ih => rw [nameLen]; split <;> simp <;> omega
theorem lineLen_le (l : List UInt8) : lineLen l ≤ l.length := by
  induction l with
  | nil => exact Nat.le_refl _
  | cons c r ih => rw [lineLen]; split <;> simp; omega
theorem octals_bound (s : List UInt8) : ∀ (m i x : Nat), i ≤ s.length → i ≤ (octals s i m x).2 ∧ (octals s i m x).2 ≤ s.length ∧ (octals s i m x).2 ≤ i + m := by
  intro m
  induction m with
  | zero => intro i x h; simp [octals]; omega
  | succ m ih =>
    intro i x h
    rw [octals]
    split
    · rename_i c hc
      have := lt_of_some hc
      split
      · have := ih (i + 1) (x * 8 + (c.toNat - 48)) (by omega); omega
      · simp; omega
    · simp; omega
theorem esc_bound {s : List UInt8} {i : Nat} {x : UInt8} {j : Nat} (h : esc s i = some (x, j)) : i + 1 < j ∧ j ≤ s.length := by
  unfold esc at h
  split at h
  · cases h
  · rename_i c hc
    have hl := lt_of_some hc
    split at h
    · rename_i ho
      simp only [Option.some.injEq, Prod.mk.injEq] at h
      have h1 : (octals s (i + 1) 3 0).2 = (octals s (i + 1 + 1) 2 (0 * 8 + (c.toNat - 48))).2 := by
        rw [octals, hc]; simp [ho]
      have h2 := octals_bound s 2 (i + 1 + 1) (0 * 8 + (c.toNat - 48)) (by omega)
      rw [← h.2, h1]; omega
    · simp only [Option.some.injEq, Prod.mk.injEq] at h
      omega
theorem braced_bound (s : List UInt8) (f : Nat) : ∀ (k i d j : Nat), s.length - i ≤ k → braced s f i d = .ok j → i < j ∧ j ≤ s.length := by
  intro k
  induction k with
  | zero =>
    intro i d j hk h
    rw [braced_none (List.getElem?_eq_none (by omega))] at h; cases h
  | succ k ih =>
    intro i d j hk h
    cases hc : s[i]? with
    | none => rw [braced_none hc] at h; cases h
    | some c =>
      have hl := lt_of_some hc
      rw [braced_some hc] at h
      split at h
      · have := ih _ _ _ (by omega) h; omega
      · split at h
        · split at h
          · cases h
          · have := ih _ _ _ (by omega) h; omega
        · split at h
          · split at h
            · have := ih _ _ _ (by omega) h; omega
            · cases h; omega
          · have := ih _ _ _ (by omega) h; omega
theorem parts_bound (stop : UInt8 → Bool) (s : List UInt8) (f : Option Nat) : ∀ (k i : Nat) (l : List Part) (t : List UInt8) (r : List Part) (j : Nat), s.length - i ≤ k → i ≤ s.length → partsGo stop s f i l t = .ok (r, j) → i ≤ j ∧ j ≤ s.length ∧ ∀ c, s[j]? = some c → stop c = true := by
  intro k
  induction k with
  | zero =>
    intro i l t r j hk hi h
    have hn : s[i]? = none := List.getElem?_eq_none (by omega)
    rw [parts_none hn] at h
    cases h
    exact ⟨Nat.le_refl _, hi, fun c hc => by rw [hn] at hc; cases hc⟩
  | succ k ih =>
    intro i l t r j hk hi h
    cases hc : s[i]? with
    | none => rw [parts_none hc] at h; cases h; exact ⟨Nat.le_refl _, hi, fun c hc' => by rw [hc] at hc'; cases hc'⟩
    | some c =>
      have hl := lt_of_some hc
      rw [parts_some hc] at h
      split at h
      · rename_i hs; cases h; exact ⟨Nat.le_refl _, hi, fun c' hc' => by rw [hc] at hc'; cases hc'; exact hs⟩
      · split at h
        · cases h
        · split at h
          · split at h
            · cases h
            · rename_i x j' he
              have hb := esc_bound he
              split at h
              · have := ih _ _ _ _ _ (by omega) (by omega) h; exact ⟨by omega, this.2⟩
              · cases h
          · split at h
            · split at h
              · cases h
              · have hn := nameLen_le (s.drop (i + 1))
                rw [List.length_drop] at hn
                split at h
                · have := ih _ _ _ _ _ (by omega) (by omega) h; exact ⟨by omega, this.2⟩
                · have := ih _ _ _ _ _ (by omega) (by omega) h; exact ⟨by omega, this.2⟩
            · have := ih _ _ _ _ _ (by omega) (by omega) h; exact ⟨by omega, this.2⟩
theorem parts_more {stop : UInt8 → Bool} {s : List UInt8} {f : Option Nat} {i : Nat} {l : List Part} {t : List UInt8} {r : List Part} {j : Nat} {c : UInt8} (hc : s[i]? = some c) (hs : stop c = false) (h : partsGo stop s f i l t = .ok (r, j)) : i < j := by
  have hl := lt_of_some hc
  have hb := parts_bound stop s f (s.length - i) i l t r j (Nat.le_refl _) (by omega) h
  rcases Nat.lt_or_ge i j with h1 | h1
  · exact h1
  · have : j = i := by omega
    subst this
    have := hb.2.2 c hc
    rw [hs] at this; cases this
theorem word_bound {s : List UInt8} {i : Nat} {c : UInt8} {w : Word} {j : Nat} (hc : s[i]? = some c) (hs : stopB c = false) (h : word s i c = .ok (w, j)) : i < j ∧ j ≤ s.length := by
  have hl := lt_of_some hc
  unfold word at h
  split at h
  · split at h
    · cases h
    · rename_i j' hb
      have := braced_bound s i (s.length - i) i 0 j' (Nat.le_refl _) hb
      split at h <;> cases h
      omega
  · split at h
    · split at h
      · cases h
      · rename_i ps j' hb
        have hb2 := parts_bound _ s _ (s.length - (i + 1)) (i + 1) [] [] ps j' (Nat.le_refl _) (by omega) hb
        split at h
        · cases h
        · split at h <;> cases h
          omega
    · split at h
      · cases h
      · rename_i ps j' hb
        have hb2 := parts_bound _ s _ (s.length - i) i [] [] ps j' (Nat.le_refl _) (by omega) hb
        have := parts_more hc hs hb
        cases h
        omega
theorem command_bound (s : List UInt8) : ∀ (k i : Nat) (ws r : List Word) (j : Nat), s.length - i ≤ k → i ≤ s.length → command s i ws = .ok (r, j) → i ≤ j ∧ j ≤ s.length ∧ ∀ c, s[j]? = some c → endB c = true := by
  intro k
  induction k with
  | zero =>
    intro i ws r j hk hi h
    have hn : s[i]? = none := List.getElem?_eq_none (by omega)
    rw [command_none hn] at h
    cases h
    exact ⟨Nat.le_refl _, hi, fun c hc => by rw [hn] at hc; cases hc⟩
  | succ k ih =>
    intro i ws r j hk hi h
    cases hc : s[i]? with
    | none => rw [command_none hc] at h; cases h; exact ⟨Nat.le_refl _, hi, fun c hc' => by rw [hc] at hc'; cases hc'⟩
    | some c =>
      have hl := lt_of_some hc
      rw [command_some hc] at h
      split at h
      · rename_i hs; cases h; exact ⟨Nat.le_refl _, hi, fun c' hc' => by rw [hc] at hc'; cases hc'; exact hs⟩
      · split at h
        · have := ih _ _ _ _ (by omega) (by omega) h; exact ⟨by omega, this.2⟩
        · rename_i he hb
          split at h
          · cases h
          · rename_i w j' hw
            have hb2 := word_bound hc (by simp [stopB]; exact ⟨by simpa using hb, by simpa using he⟩) hw
            split at h
            · have := ih _ _ _ _ (by omega) (by omega) h; exact ⟨by omega, this.2⟩
            · cases h
theorem command_more {s : List UInt8} {i : Nat} {ws r : List Word} {j : Nat} {c : UInt8} (hc : s[i]? = some c) (hs : endB c = false) (h : command s i ws = .ok (r, j)) : i < j := by
  have hl := lt_of_some hc
  have hb := command_bound s (s.length - i) i ws r j (Nat.le_refl _) (by omega) h
  rcases Nat.lt_or_ge i j with h1 | h1
  · exact h1
  · have : j = i := by omega
    subst this
    have := hb.2.2 c hc
    rw [hs] at this; cases this
theorem lineLen_pos {l : List UInt8} {c : UInt8} (h : l[0]? = some c) (hc : c ≠ 10) : 0 < lineLen l := by
  cases l with
  | nil => simp at h
  | cons d r => simp at h; subst h; rw [lineLen, if_neg hc]; omega
end Tcl
end Go.Proofs.YtncoedoiakaedaaDoor
