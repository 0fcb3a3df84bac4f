/- How much of a pattern stands at the end of what was seen, by borders: plain Lean, no program. No condition. -/
set_option linter.unusedVariables false
set_option linter.unusedSimpArgs false
namespace Go.Proofs.Ytojgdmpnbgikeaa
namespace Kmp
variable {α : Type}
/-- The first k things of p stand at the end of s. -/
def Suf (p s : List α) (k : Nat) : Prop := k ≤ p.length ∧ p.take k <:+ s
/-- r is the most that does. -/
def IsBest (p s : List α) (r : Nat) : Prop := Suf p s r ∧ ∀ k, Suf p s k → k ≤ r
theorem Suf.zero (p s : List α) : Suf p s 0 := ⟨Nat.zero_le _, by simp⟩
theorem best_nil (p : List α) : IsBest p [] 0 := by
  refine ⟨Suf.zero p [], fun k h => ?_⟩
  have := h.2.length_le
  rw [List.length_take, List.length_nil] at this
  have := h.1
  omega
theorem IsBest.unique {p s : List α} {a b : Nat} (h : IsBest p s a) (k : IsBest p s b) : a = b := Nat.le_antisymm (k.2 _ h.1) (h.2 _ k.1)
theorem IsBest.full {p s : List α} {a : Nat} (h : IsBest p s a) : a = p.length ↔ p <:+ s := by
  constructor
  · rintro rfl
    have := h.1.2
    rwa [List.take_length] at this
  · intro hp
    exact Nat.le_antisymm h.1.1 (h.2 _ ⟨Nat.le_refl _, by rwa [List.take_length]⟩)
theorem suf_snoc {p s : List α} {x : α} {k : Nat} : Suf p (s ++ [x]) (k + 1) ↔ ∃ h : k < p.length, p[k] = x ∧ Suf p s k := by
  constructor
  · rintro ⟨h1, h2⟩
    have hk : k < p.length := h1
    rw [List.take_succ_eq_append_getElem hk] at h2
    obtain ⟨t, ht⟩ := h2
    rw [← List.append_assoc] at ht
    obtain ⟨h3, h4⟩ := List.append_inj' ht rfl
    simp at h4
    exact ⟨hk, h4, Nat.le_of_lt hk, ⟨t, h3⟩⟩
  · rintro ⟨h, rfl, -, t, h3⟩
    refine ⟨h, t, ?_⟩
    rw [List.take_succ_eq_append_getElem h, ← List.append_assoc, h3]
/-- What is shorter stands at the end of what is longer. -/
theorem suf_border {p s : List α} {a k : Nat} (ha : Suf p s a) (hka : k < a) : Suf p s k ↔ Suf p ((p.take a).drop 1) k := by
  have hal := ha.1
  constructor
  · rintro ⟨h1, h2⟩
    refine ⟨h1, ?_⟩
    have h3 : p.take k <:+ p.take a := List.suffix_of_suffix_length_le h2 ha.2 (by simp; omega)
    refine List.suffix_of_suffix_length_le h3 (List.drop_suffix _ _) ?_
    simp; omega
  · rintro ⟨h1, h2⟩
    exact ⟨h1, (h2.trans (List.drop_suffix _ _)).trans ha.2⟩
/-- What the row of borders tells up to n. -/
def BackOk (p : List α) (back : List Int) (n : Nat) : Prop := ∀ j, 1 ≤ j → j ≤ n → ∃ b : Nat, back[j - 1]? = some (b : Int) ∧ IsBest p ((p.take j).drop 1) b
theorem border_lt {p : List α} {j b : Nat} (hj : 1 ≤ j) (h : IsBest p ((p.take j).drop 1) b) : b < j := by
  have h1 := h.1.2.length_le
  have h2 := h.1.1
  simp at h1
  omega
/-- The step. -/
structure At (p s : List α) (x : α) (a : Nat) : Prop where
  suf : Suf p s a
  low : ∀ k (h : k < p.length), Suf p s k → p[k] = x → k ≤ a
theorem At.start {p s : List α} {x : α} {a : Nat} (h : IsBest p s a) : At p s x a := ⟨h.1, fun k _ hk _ => h.2 k hk⟩
theorem At.hit {p s : List α} {x : α} {a : Nat} (h : At p s x a) (hl : a < p.length) (hx : p[a] = x) : IsBest p (s ++ [x]) (a + 1) := by
  refine ⟨suf_snoc.2 ⟨hl, hx, h.suf⟩, fun k hk => ?_⟩
  cases k with
  | zero => omega
  | succ k =>
    obtain ⟨h1, h2, h3⟩ := suf_snoc.1 hk
    have := h.low k h1 h3 h2
    omega
theorem At.none {p s : List α} {x : α} (h : At p s x 0) (hx : ∀ hl : 0 < p.length, p[0] ≠ x) : IsBest p (s ++ [x]) 0 := by
  refine ⟨Suf.zero _ _, fun k hk => ?_⟩
  cases k with
  | zero => omega
  | succ k =>
    obtain ⟨h1, h2, h3⟩ := suf_snoc.1 hk
    have := h.low k h1 h3 h2
    obtain rfl : k = 0 := by omega
    exact absurd h2 (hx h1)
theorem At.back {p s : List α} {x : α} {a b : Nat} (h : At p s x a) (ha : 1 ≤ a) (hx : ∀ hl : a < p.length, p[a] ≠ x) (hb : IsBest p ((p.take a).drop 1) b) : At p s x b := by
  have hlt := border_lt ha hb
  refine ⟨(suf_border h.suf hlt).2 hb.1, fun k hk h1 h2 => ?_⟩
  have := h.low k hk h1 h2
  rcases Nat.lt_or_ge k a with h3 | h3
  · exact hb.2 k ((suf_border h.suf h3).1 h1)
  · obtain rfl : k = a := by omega
    exact absurd h2 (hx hk)
/-- Of a beginning of the pattern. -/
theorem best_take {p s : List α} {i r : Nat} (hi : i ≤ p.length) (hs : s.length ≤ i) : IsBest (p.take i) s r ↔ IsBest p s r := by
  have key : ∀ k, Suf (p.take i) s k ↔ Suf p s k := by
    intro k
    constructor
    · rintro ⟨h1, h2⟩
      rw [List.length_take] at h1
      refine ⟨by omega, ?_⟩
      rwa [List.take_take, Nat.min_eq_left (by omega)] at h2
    · rintro ⟨h1, h2⟩
      have h3 := h2.length_le
      rw [List.length_take] at h3
      refine ⟨by rw [List.length_take]; omega, ?_⟩
      rwa [List.take_take, Nat.min_eq_left (by omega)]
  constructor
  · rintro ⟨h1, h2⟩; exact ⟨(key r).1 h1, fun k hk => h2 k ((key k).2 hk)⟩
  · rintro ⟨h1, h2⟩; exact ⟨(key r).2 h1, fun k hk => h2 k ((key k).1 hk)⟩
theorem back_take {p : List α} {back : List Int} {n i : Nat} (h : BackOk p back n) (hi : i ≤ p.length) (hn : n ≤ i) : BackOk (p.take i) back n := by
  intro j h1 h2
  obtain ⟨b, hb, hB⟩ := h j h1 h2
  refine ⟨b, hb, ?_⟩
  rw [List.take_take, Nat.min_eq_left (by omega)]
  exact (best_take hi (by simp; omega)).2 hB
theorem drop_snoc {p : List α} {i : Nat} (hi : i < p.length) (h1 : 1 ≤ i) : (p.take i).drop 1 ++ [p[i]] = (p.take (i + 1)).drop 1 := by
  rw [List.take_succ_eq_append_getElem hi, List.drop_append_of_le_length (by simp; omega)]
end Kmp
end Go.Proofs.Ytojgdmpnbgikeaa
