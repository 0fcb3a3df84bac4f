/- The shortest end of a text that stands nowhere else in it: by its beginnings turned about, and end by end. Plain Lean, no program in sight. No condition. -/
set_option linter.unusedVariables false
set_option linter.unusedSimpArgs false
namespace Go.Proofs.YtncoedoiakaedaaDoor
namespace Tail
/-- How long two texts are the same. -/
def lcp : List UInt8 → List UInt8 → Nat
  | a :: r, b :: s => if a = b then lcp r s + 1 else 0
  | _, _ => 0
theorem lcp_le_left : ∀ (a b : List UInt8), lcp a b ≤ a.length
  | [], _ => by unfold lcp; simp
  | a :: r, [] => by unfold lcp; simp
  | a :: r, b :: s => by
    rw [lcp]
    split
    · have := lcp_le_left r s; simp; omega
    · simp
theorem lcp_le_right : ∀ (a b : List UInt8), lcp a b ≤ b.length
  | [], _ => by unfold lcp; simp
  | a :: r, [] => by unfold lcp; simp
  | a :: r, b :: s => by
    rw [lcp]
    split
    · have := lcp_le_right r s; simp; omega
    · simp
theorem lcp_take : ∀ (n : Nat) (a b : List UInt8), n ≤ a.length → n ≤ b.length → (a.take n = b.take n ↔ n ≤ lcp a b)
  | 0, a, b, _, _ => by simp
  | n + 1, [], b, h, _ => by simp at h
  | n + 1, a :: r, [], _, h => by simp at h
  | n + 1, a :: r, b :: s, h1, h2 => by
    simp at h1 h2
    rw [lcp, List.take_succ_cons, List.take_succ_cons, List.cons.injEq, lcp_take n r s h1 h2]
    by_cases h : a = b
    · rw [if_pos h]; simp [h]
    · rw [if_neg h]; simp [h]
/-- How many of the first numbers are so. -/
def cntTo (f : Nat → Bool) : Nat → Nat
  | 0 => 0
  | k + 1 => cntTo f k + (if f k then 1 else 0)
theorem cntTo_mono (f : Nat → Bool) {a b : Nat} (h : a ≤ b) : cntTo f a ≤ cntTo f b := by
  induction b with
  | zero => simp at h; rw [h]; exact Nat.le_refl _
  | succ b ih =>
    rcases Nat.lt_or_ge b a with h1 | h1
    · rw [show a = b + 1 by omega]; exact Nat.le_refl _
    · rw [cntTo]; have := ih h1; omega
theorem cntTo_two {f : Nat → Bool} {i j k : Nat} (hi : f i = true) (hj : f j = true) (hij : i < j) (hjk : j < k) : 2 ≤ cntTo f k := by
  have h1 : cntTo f (i + 1) = cntTo f i + 1 := by rw [cntTo, hi]; rfl
  have h2 : cntTo f (j + 1) = cntTo f j + 1 := by rw [cntTo, hj]; rfl
  have h3 := cntTo_mono f (show i + 1 ≤ j by omega)
  have h4 := cntTo_mono f (show j + 1 ≤ k by omega)
  omega
theorem cntTo_one {f : Nat → Bool} {i : Nat} (hi : f i = true) (ho : ∀ j, f j = true → j = i) : ∀ k, cntTo f k = if i < k then 1 else 0
  | 0 => by simp [cntTo]
  | k + 1 => by
    rw [cntTo, cntTo_one hi ho k]
    by_cases h : k = i
    · subst h; rw [hi]; simp
    · have hf : f k = false := by
        cases hk : f k with
        | false => rfl
        | true => exact absurd (ho k hk) h
      rw [hf]
      by_cases h2 : i < k
      · simp [h2, show i < k + 1 by omega]
      · simp [h2, show ¬ i < k + 1 by omega]
/-- Does a text's end of `n` bytes stand at `i`? -/
def endAt (t : List UInt8) (n i : Nat) : Bool := decide (n ≤ t.length - i ∧ i ≤ t.length ∧ (t.drop i).take n = t.drop (t.length - n))
theorem endAt_iff {t : List UInt8} {n i : Nat} (hn : n ≤ t.length) (hi : i + n ≤ t.length) : endAt t n i = true ↔ n ≤ lcp t.reverse (t.reverse.drop (t.length - n - i)) := by
  unfold endAt
  rw [decide_eq_true_iff, ← lcp_take n _ _ (by simpa using hn) (by simp; omega)]
  have e1 : (t.drop (t.length - n)).reverse = t.reverse.take n := by rw [List.reverse_drop]; congr 1; omega
  have e2 : ((t.drop i).take n).reverse = (t.reverse.drop (t.length - n - i)).take n := by
    rw [List.reverse_take, List.reverse_drop, List.drop_take, List.length_drop]
    congr 1
    · omega
    · congr 1; omega
  constructor
  · rintro ⟨-, -, h⟩
    rw [← e1, ← e2, h]
  · intro h
    refine ⟨by omega, by omega, ?_⟩
    rw [← e1, ← e2] at h
    have := congrArg List.reverse h
    simpa using this.symm
/-- The greatest of some numbers. -/
def maxTo (f : Nat → Nat) : Nat → Nat
  | 0 => 0
  | k + 1 => max (maxTo f k) (f k)
theorem le_maxTo (f : Nat → Nat) {i k : Nat} (h : i < k) : f i ≤ maxTo f k := by
  induction k with
  | zero => omega
  | succ k ih =>
    rw [maxTo]
    by_cases hi : i = k
    · subst hi; exact Nat.le_max_right _ _
    · exact Nat.le_trans (ih (by omega)) (Nat.le_max_left _ _)
theorem maxTo_at (f : Nat → Nat) : ∀ k, maxTo f k = 0 ∨ ∃ i, i < k ∧ f i = maxTo f k
  | 0 => .inl rfl
  | k + 1 => by
    rw [maxTo]
    rcases Nat.le_total (maxTo f k) (f k) with h | h
    · rw [Nat.max_eq_right h]; exact .inr ⟨k, by omega, rfl⟩
    · rw [Nat.max_eq_left h]
      rcases maxTo_at f k with h0 | ⟨i, hi, he⟩
      · exact .inl h0
      · exact .inr ⟨i, by omega, he⟩
/-- How many bytes from a place on are those from the beginning on; none at the beginning itself. -/
def zl (b : List UInt8) (i : Nat) : Nat := if i = 0 then 0 else lcp b (b.drop i)
/-- The longest beginning that stands again. -/
def longest (b : List UInt8) : Nat := maxTo (zl b) b.length
theorem longest_lt {b : List UInt8} (h : b ≠ []) : longest b < b.length := by
  have hl : 0 < b.length := List.length_pos_iff.2 h
  unfold longest
  rcases maxTo_at (zl b) b.length with h0 | ⟨i, hi, he⟩
  · omega
  · rw [← he]
    unfold zl
    split
    · exact hl
    · have := lcp_le_right b (b.drop i)
      rw [List.length_drop] at this
      omega
def shortest (t : List UInt8) : Nat := if t = [] then 0 else longest t.reverse + 1
theorem shortest_one {t : List UInt8} (h : t ≠ []) : cntTo (endAt t (shortest t)) t.length = 1 := by
  have hb : t.reverse ≠ [] := by simpa using h
  have hl := longest_lt hb
  rw [List.length_reverse] at hl
  have hs : shortest t = longest t.reverse + 1 := by unfold shortest; rw [if_neg h]
  have hpos : 0 < t.length := List.length_pos_iff.2 h
  rw [hs]
  have hi : endAt t (longest t.reverse + 1) (t.length - (longest t.reverse + 1)) = true := by
    rw [endAt_iff (by omega) (by omega), Nat.sub_self, List.drop_zero]
    have : lcp t.reverse t.reverse = t.length := by
      have h1 := (lcp_take t.reverse.length t.reverse t.reverse (Nat.le_refl _) (Nat.le_refl _)).1 rfl
      have h2 := lcp_le_left t.reverse t.reverse
      rw [List.length_reverse] at h1 h2
      omega
    omega
  rw [cntTo_one hi (fun j hj => ?_), if_pos (by omega)]
  have hjl : j + (longest t.reverse + 1) ≤ t.length := by
    have := hj
    unfold endAt at this
    rw [decide_eq_true_iff] at this
    omega
  have h2 := (endAt_iff (by omega) hjl).1 hj
  by_cases h0 : t.length - (longest t.reverse + 1) - j = 0
  · omega
  · have h3 := le_maxTo (zl t.reverse) (i := t.length - (longest t.reverse + 1) - j) (k := t.reverse.length) (by rw [List.length_reverse]; omega)
    unfold zl at h3
    rw [if_neg h0] at h3
    have h4 : longest t.reverse = maxTo (zl t.reverse) t.reverse.length := rfl
    have h5 : (maxTo (fun i => if i = 0 then 0 else lcp t.reverse (t.reverse.drop i)) t.reverse.length) = maxTo (zl t.reverse) t.reverse.length := rfl
    omega
theorem shortest_not {t : List UInt8} {n : Nat} (h0 : 0 < n) (h : n < shortest t) : cntTo (endAt t n) t.length ≠ 1 := by
  have ht : t ≠ [] := by rintro rfl; unfold shortest at h; simp at h
  have hs : shortest t = longest t.reverse + 1 := by unfold shortest; rw [if_neg ht]
  have hb : t.reverse ≠ [] := by simpa using ht
  have hl := longest_lt hb
  rw [List.length_reverse] at hl
  rw [hs] at h
  obtain ⟨j, hj, he⟩ : ∃ j, j < t.reverse.length ∧ zl t.reverse j = longest t.reverse := by
    rcases maxTo_at (zl t.reverse) t.reverse.length with h1 | h1
    · have : longest t.reverse = 0 := h1
      omega
    · exact h1
  rw [List.length_reverse] at hj
  have hj0 : j ≠ 0 := by
    rintro rfl
    unfold zl at he
    rw [if_pos rfl] at he
    omega
  unfold zl at he
  rw [if_neg hj0] at he
  have hr := lcp_le_right t.reverse (t.reverse.drop j)
  rw [List.length_drop, List.length_reverse] at hr
  have h1 : endAt t n (t.length - n) = true := by
    unfold endAt
    rw [decide_eq_true_iff]
    refine ⟨by omega, by omega, ?_⟩
    rw [List.take_of_length_le (by rw [List.length_drop]; omega)]
  have h2 : endAt t n (t.length - n - j) = true := by
    rw [endAt_iff (by omega) (by omega), show t.length - n - (t.length - n - j) = j by omega]
    omega
  have := cntTo_two h2 h1 (by omega) (show t.length - n < t.length by omega)
  omega
theorem lcp_ge {a b : List UInt8} {k : Nat} : k ≤ lcp a b ↔ k ≤ a.length ∧ k ≤ b.length ∧ ∀ m, m < k → a[m]? = b[m]? := by
  constructor
  · intro h
    have h1 : k ≤ a.length := Nat.le_trans h (lcp_le_left a b)
    have h2 : k ≤ b.length := Nat.le_trans h (lcp_le_right a b)
    refine ⟨h1, h2, fun m hm => ?_⟩
    have h3 := (lcp_take k a b h1 h2).2 h
    have := congrArg (fun l => l[m]?) h3
    simpa [List.getElem?_take, hm] using this
  · rintro ⟨h1, h2, h3⟩
    refine (lcp_take k a b h1 h2).1 ?_
    apply List.ext_getElem?
    intro m
    rw [List.getElem?_take, List.getElem?_take]
    split
    · exact h3 m (by assumption)
    · rfl
/-- One byte more. -/
theorem lcp_more {a b : List UInt8} {k : Nat} {x : UInt8} (h : k ≤ lcp a b) (ha : a[k]? = some x) (hb : b[k]? = some x) : k + 1 ≤ lcp a b := by
  obtain ⟨h1, h2, h3⟩ := lcp_ge.1 h
  have e1 := (List.getElem?_eq_some_iff.1 ha).1
  have e2 := (List.getElem?_eq_some_iff.1 hb).1
  refine lcp_ge.2 ⟨by omega, by omega, fun m hm => ?_⟩
  by_cases hk : m = k
  · subst hk; rw [ha, hb]
  · exact h3 m (by omega)
/-- No byte more. -/
theorem lcp_stop {a b : List UInt8} {k : Nat} (h : k ≤ lcp a b) (hs : a[k]? ≠ b[k]? ∨ b.length ≤ k) : lcp a b = k := by
  rcases Nat.lt_or_ge k (lcp a b) with h1 | h1
  · obtain ⟨h2, h3, h4⟩ := lcp_ge.1 (show k + 1 ≤ lcp a b from h1)
    rcases hs with hs | hs
    · exact absurd (h4 k (by omega)) hs
    · omega
  · omega
/-- What is known of the stretch that reaches farthest. -/
def Win (t : List UInt8) (i l r : Nat) : Prop := (l = 0 ∧ r = 0) ∨ (1 ≤ l ∧ l < i ∧ l ≤ r ∧ r ≤ t.length ∧ r - l ≤ lcp t (t.drop l))
theorem Win.start {t : List UInt8} {i l r : Nat} (h : Win t i l r) (hr : i < r) : i - l < i ∧ 1 ≤ i - l ∧ min (r - i) (zl t (i - l)) ≤ lcp t (t.drop i) := by
  rcases h with ⟨-, rfl⟩ | ⟨h1, h2, h3, h4, h5⟩
  · omega
  · refine ⟨by omega, by omega, ?_⟩
    unfold zl
    rw [if_neg (by omega)]
    obtain ⟨k1, k2, k3⟩ := lcp_ge.1 h5
    obtain ⟨j1, j2, j3⟩ := lcp_ge.1 (Nat.le_refl (lcp t (t.drop (i - l))))
    refine lcp_ge.2 ⟨by omega, by rw [List.length_drop]; omega, fun m hm => ?_⟩
    have e1 := j3 m (by omega)
    have e2 := k3 (i - l + m) (by omega)
    rw [List.getElem?_drop] at e1 e2
    rw [List.getElem?_drop, e1, e2]
    congr 1; omega
theorem Win.next {t : List UInt8} {i l r : Nat} (h : Win t i l r) (hi : 1 ≤ i) (hl : i ≤ t.length) : Win t (i + 1) (if i + zl t i > r then i else l) (if i + zl t i > r then i + zl t i else r) := by
  split
  · right
    unfold zl
    rw [if_neg (by omega)]
    have := lcp_le_right t (t.drop i)
    rw [List.length_drop] at this
    refine ⟨hi, by omega, by omega, by omega, by omega⟩
  · rcases h with h | ⟨h1, h2, h3, h4, h5⟩
    · exact .inl h
    · exact .inr ⟨h1, by omega, h3, h4, h5⟩
/-- The pieces: of at most `m` bytes each. -/
def cuts (t : List UInt8) (m : Nat) : List (List UInt8) := (List.range ((t.length + m - 1) / m)).map (fun i => (t.drop (i * m)).take m)
def pieces (t : List UInt8) (m : Nat) : List (List UInt8) := if shortest t = 0 then [] else if shortest t ≤ m then [t.drop (t.length - shortest t)] else cuts t m
/-- The reference's cutting. -/
def cutsR (m : Nat) : Nat → List UInt8 → List (List UInt8)
  | 0, t => [t]
  | k + 1, t => if t.length ≤ m then [t] else t.take m :: cutsR m k (t.drop m)
theorem cutsR_eq {m : Nat} (hm : 0 < m) : ∀ (k : Nat) (t : List UInt8), t ≠ [] → t.length ≤ k → cutsR m k t = cuts t m
  | 0, t, h0, h => absurd (List.length_eq_zero_iff.1 (by omega)) h0
  | k + 1, t, h0, h => by
    have hp : 0 < t.length := List.length_pos_iff.2 h0
    rw [cutsR]
    unfold cuts
    by_cases hl : t.length ≤ m
    · rw [if_pos hl]
      have e : (t.length + m - 1) / m = 1 := by
        rw [show t.length + m - 1 = (t.length - 1) + m by omega, Nat.add_div_right _ hm, Nat.div_eq_of_lt (by omega)]
      rw [e]
      simp [List.range_succ, List.take_of_length_le hl]
    · rw [if_neg hl]
      have hd : t.drop m ≠ [] := by
        intro h9
        have := List.drop_eq_nil_iff.1 h9
        omega
      have e : (t.length + m - 1) / m = ((t.drop m).length + m - 1) / m + 1 := by
        rw [List.length_drop, ← Nat.add_div_right _ hm]
        congr 1; omega
      rw [cutsR_eq hm k (t.drop m) hd (by rw [List.length_drop]; omega), e, List.range_succ_eq_map, List.map_cons, List.map_map]
      unfold cuts
      congr 1
      · simp
      · apply List.map_congr_left
        intro i _
        simp only [Function.comp, List.drop_drop]
        congr 2
        rw [Nat.succ_mul]; omega
end Tail
end Go.Proofs.YtncoedoiakaedaaDoor
