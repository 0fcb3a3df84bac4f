/- Patterns and what they are like, in plain Lean: no program in sight. No condition. -/
set_option linter.unusedVariables false
set_option linter.unusedSimpArgs false
namespace Go.Proofs.Ytojgdmpnbgikeaa
namespace Glob

/-- One of a pattern. -/
inductive Th where
  | any
  | one
  | set (l : List UInt8)
  | lit (c : UInt8)
/-- Is a byte one of those that stand between [ and ]? -/
def setHas : List UInt8 → UInt8 → Bool
  | a :: b :: d :: r, c => if b = 45 then (decide (a ≤ c) && decide (c ≤ d)) || setHas r c else (a == c) || setHas (b :: d :: r) c
  | [a, b], c => (a == c) || (b == c)
  | [a], c => a == c
  | [], _ => false
def Th.has : Th → UInt8 → Bool
  | .any, _ => false
  | .one, _ => true
  | .set l, c => setHas l c
  | .lit d, c => c == d
def Th.isAny : Th → Bool
  | .any => true
  | _ => false
/-- A pattern's things, if it is right (but for its length). -/
def parse (p : List UInt8) : Option (List Th) :=
  match p with
  | [] => some []
  | c :: r =>
    if c = 42 then (parse r).map (Th.any :: ·)
    else if c = 63 then (parse r).map (Th.one :: ·)
    else if c = 91 then
      match (r.drop 1).findIdx? (· == 93) with
      | none => none
      | some n => (parse (r.drop (n + 2))).map (Th.set (r.take (n + 1)) :: ·)
    else if c = 92 then
      match r with
      | [] => none
      | d :: r' => (parse r').map (Th.lit d :: ·)
    else (parse r).map (Th.lit c :: ·)
termination_by p.length
decreasing_by all_goals (simp; try omega)
/-- Is a whole text like things? -/
def Like : List Th → List UInt8 → Bool
  | [], [] => true
  | [], _ :: _ => false
  | .any :: r, [] => Like r []
  | .any :: r, c :: t => Like r (c :: t) || Like (.any :: r) t
  | .one :: _, [] => false
  | .one :: r, _ :: t => Like r t
  | .set _ :: _, [] => false
  | .set l :: r, c :: t => setHas l c && Like r t
  | .lit _ :: _, [] => false
  | .lit d :: r, c :: t => (c == d) && Like r t
termination_by l t => l.length + t.length

theorem like_any_nil (r : List Th) : Like (.any :: r) [] = Like r [] := by rw [Like]
theorem like_any_cons (r : List Th) (c : UInt8) (t : List UInt8) : Like (.any :: r) (c :: t) = (Like r (c :: t) || Like (.any :: r) t) := by rw [Like]
theorem like_nil_nil : Like [] [] = true := by rw [Like]
theorem like_nil_cons (c : UInt8) (t : List UInt8) : Like [] (c :: t) = false := by rw [Like]
theorem like_cons_nil {x : Th} (hx : x.isAny = false) (r : List Th) : Like (x :: r) [] = false := by
  cases x <;> first | (simp [Th.isAny] at hx; done) | rw [Like]
theorem like_cons_cons {x : Th} (hx : x.isAny = false) (r : List Th) (c : UInt8) (t : List UInt8) : Like (x :: r) (c :: t) = (x.has c && Like r t) := by
  cases x with
  | any => simp [Th.isAny] at hx
  | one => rw [Like]; simp [Th.has]
  | set l => rw [Like]; simp [Th.has]
  | lit d => rw [Like]; simp [Th.has]

/-- What a star is like stays so with more ahead. -/
theorem like_any_of_drop (r : List Th) : ∀ (t : List UInt8) (d : Nat), Like r (t.drop d) = true → Like (.any :: r) t = true
  | t, 0, h => by
    cases t with
    | nil => rw [like_any_nil]; simpa using h
    | cons c t => rw [like_any_cons]; simp at h; simp [h]
  | [], d + 1, h => by rw [like_any_nil]; simpa using h
  | c :: t, d + 1, h => by
    rw [like_any_cons]
    have := like_any_of_drop r t d (by simpa using h)
    simp [this]
theorem drop_of_like_any (r : List Th) : ∀ (t : List UInt8), Like (.any :: r) t = true → ∃ d, d ≤ t.length ∧ Like r (t.drop d) = true
  | [], h => ⟨0, by simp, by rw [like_any_nil] at h; simpa using h⟩
  | c :: t, h => by
    rw [like_any_cons] at h
    simp only [Bool.or_eq_true] at h
    rcases h with h | h
    · exact ⟨0, by simp, by simpa using h⟩
    · obtain ⟨d, hd, h⟩ := drop_of_like_any r t h
      exact ⟨d + 1, by simp; omega, by simpa using h⟩
theorem like_any_iff (r : List Th) (t : List UInt8) : Like (.any :: r) t = true ↔ ∃ d, d ≤ t.length ∧ Like r (t.drop d) = true :=
  ⟨drop_of_like_any r t, fun ⟨d, _, h⟩ => like_any_of_drop r t d h⟩
/-- A text in two: each part like its own things. -/
theorem like_append (a b : List Th) : ∀ (t : List UInt8), Like (a ++ b) t = true ↔ ∃ d, d ≤ t.length ∧ Like a (t.take d) = true ∧ Like b (t.drop d) = true := by
  induction a with
  | nil =>
    intro t
    constructor
    · intro h; exact ⟨0, by simp, by simp [like_nil_nil], by simpa using h⟩
    · rintro ⟨d, hd, h1, h2⟩
      have : t.take d = [] := by
        cases ht : t.take d with
        | nil => rfl
        | cons c r => rw [ht, like_nil_cons] at h1; cases h1
      have hd0 : d = 0 ∨ t = [] := by simpa using this
      rcases hd0 with rfl | rfl
      · simpa using h2
      · simpa using h2
  | cons x a ih =>
    intro t
    cases hx : x.isAny with
    | true =>
      have : x = .any := by cases x <;> simp [Th.isAny] at hx; rfl
      subst this
      rw [List.cons_append, like_any_iff]
      constructor
      · rintro ⟨d, hd, h⟩
        obtain ⟨e, he, h1, h2⟩ := (ih _).1 h
        refine ⟨d + e, by simp at he; omega, ?_, by rw [List.drop_drop] at h2; exact h2⟩
        refine like_any_of_drop _ _ d ?_
        rw [List.drop_take]; simpa [Nat.add_sub_cancel_left] using h1
      · rintro ⟨e, he, h1, h2⟩
        obtain ⟨d, hd, h3⟩ := drop_of_like_any _ _ h1
        have hd' : d ≤ e := by simp at hd; omega
        refine ⟨d, by omega, (ih _).2 ⟨e - d, by simp; omega, ?_, ?_⟩⟩
        · rw [List.drop_take] at h3; exact h3
        · rw [List.drop_drop, Nat.add_sub_cancel' hd']; exact h2
    | false =>
      cases t with
      | nil =>
        rw [List.cons_append, like_cons_nil hx]
        simp [like_cons_nil hx]
      | cons c t =>
        rw [List.cons_append, like_cons_cons hx]
        simp only [Bool.and_eq_true]
        constructor
        · rintro ⟨h1, h2⟩
          obtain ⟨d, hd, h3, h4⟩ := (ih _).1 h2
          exact ⟨d + 1, by simp; omega, by simp [like_cons_cons hx, h1, h3], by simpa using h4⟩
        · rintro ⟨d, hd, h3, h4⟩
          cases d with
          | zero => simp [like_cons_nil hx] at h3
          | succ d =>
            simp [like_cons_cons hx] at h3 h4
            exact ⟨h3.1, (ih _).2 ⟨d, by simp at hd; omega, h3.2, h4⟩⟩
theorem like_nil_iff (r : List Th) : Like r [] = true ↔ ∀ x ∈ r, x.isAny = true := by
  induction r with
  | nil => simp [like_nil_nil]
  | cons x r ih =>
    cases hx : x.isAny with
    | true =>
      have : x = .any := by cases x <;> simp [Th.isAny] at hx; rfl
      subst this
      rw [like_any_nil, ih]; simp [hx]
    | false => rw [like_cons_nil hx]; simp [hx]

/-- Star-free things that stand, byte by byte, at a text's head. -/
def At : List Th → List UInt8 → Prop
  | [], _ => True
  | _ :: _, [] => False
  | x :: a, c :: t => x.isAny = false ∧ x.has c = true ∧ At a t
theorem At.snoc {a : List Th} {t : List UInt8} {x : Th} {c : UInt8} (h : At a t) (hc : t[a.length]? = some c) (h1 : x.isAny = false) (h2 : x.has c = true) : At (a ++ [x]) t := by
  induction a generalizing t with
  | nil =>
    cases t with
    | nil => simp at hc
    | cons d t => simp at hc; subst hc; exact ⟨h1, h2, trivial⟩
  | cons y a ih =>
    cases t with
    | nil => exact h.elim
    | cons d t => exact ⟨h.1, h.2.1, ih h.2.2 (by simpa using hc)⟩
theorem At.le {a : List Th} {t : List UInt8} (h : At a t) : a.length ≤ t.length := by
  induction a generalizing t with
  | nil => simp
  | cons y a ih =>
    cases t with
    | nil => exact h.elim
    | cons d t => have := ih h.2.2; simp; omega
theorem At.free {a : List Th} {t : List UInt8} (h : At a t) : ∀ x ∈ a, x.isAny = false := by
  induction a generalizing t with
  | nil => simp
  | cons y a ih =>
    cases t with
    | nil => exact h.elim
    | cons d t =>
      intro x hx
      simp at hx
      rcases hx with rfl | hx
      · exact h.1
      · exact ih h.2.2 x hx
/-- Things that stand at the head: what is left is asked of the rest. -/
theorem like_at {a : List Th} {t : List UInt8} (h : At a t) (r : List Th) : Like (a ++ r) t = Like r (t.drop a.length) := by
  induction a generalizing t with
  | nil => simp
  | cons y a ih =>
    cases t with
    | nil => exact h.elim
    | cons d t => rw [List.cons_append, like_cons_cons h.1, h.2.1, ih h.2.2]; simp
/-- Star-free things take as many bytes as they are. -/
theorem free_len {a : List Th} (hf : ∀ x ∈ a, x.isAny = false) {t : List UInt8} {r : List Th} (h : Like (a ++ r) t = true) : a.length ≤ t.length ∧ Like r (t.drop a.length) = true := by
  induction a generalizing t with
  | nil => exact ⟨by simp, by simpa using h⟩
  | cons y a ih =>
    have hy := hf y (by simp)
    cases t with
    | nil => rw [List.cons_append, like_cons_nil hy] at h; cases h
    | cons d t =>
      rw [List.cons_append, like_cons_cons hy] at h
      simp only [Bool.and_eq_true] at h
      obtain ⟨h1, h2⟩ := ih (fun x hx => hf x (by simp [hx])) h.2
      exact ⟨by simp; omega, by simpa using h2⟩
/-- Behind a star that is met while its things stand: the earlier star plays no part any more. -/
theorem like_next {a : List Th} {t : List UInt8} (h : At a t) (r : List Th) : Like (.any :: (a ++ .any :: r)) t = Like (.any :: r) (t.drop a.length) := by
  rw [Bool.eq_iff_iff]
  constructor
  · intro h1
    obtain ⟨d, hd, h2⟩ := drop_of_like_any _ _ h1
    obtain ⟨h3, h4⟩ := free_len h.free h2
    rw [List.drop_drop] at h4
    obtain ⟨e, he, h5⟩ := drop_of_like_any _ _ h4
    rw [List.drop_drop] at h5
    refine like_any_of_drop _ _ (d + e) ?_
    rw [List.drop_drop]
    have e1 : a.length + (d + e) = d + a.length + e := by omega
    rw [e1]; exact h5
  · intro h1
    refine like_any_of_drop _ _ 0 ?_
    rw [List.drop_zero, like_at h]; exact h1
/-- Where they don't stand the star takes a byte more. -/
theorem like_skip {r : List Th} {t : List UInt8} (h : Like r t = false) (ht : t ≠ []) : Like (.any :: r) t = Like (.any :: r) (t.drop 1) := by
  cases t with
  | nil => exact absurd rfl ht
  | cons c t => rw [like_any_cons, h]; simp
/-- At the text's end. -/
theorem like_end {a : List Th} {t : List UInt8} (h : At a t) (hl : a.length = t.length) (r : List Th) : Like (.any :: (a ++ r)) t = Like r [] := by
  rw [Bool.eq_iff_iff]
  constructor
  · intro h1
    obtain ⟨d, hd, h2⟩ := drop_of_like_any _ _ h1
    obtain ⟨h3, h4⟩ := free_len h.free h2
    have : (t.drop d).drop a.length = [] := by apply List.eq_nil_of_length_eq_zero; simp; omega
    rw [this] at h4; exact h4
  · intro h1
    refine like_any_of_drop _ _ 0 ?_
    rw [List.drop_zero, like_at h, hl]; simpa using h1

theorem parse_nil : parse [] = some [] := by rw [parse.eq_def]
theorem parse_cons (c : UInt8) (r : List UInt8) : parse (c :: r) =
    if c = 42 then (parse r).map (Th.any :: ·)
    else if c = 63 then (parse r).map (Th.one :: ·)
    else if c = 91 then
      match (r.drop 1).findIdx? (· == 93) with
      | none => none
      | some n => (parse (r.drop (n + 2))).map (Th.set (r.take (n + 1)) :: ·)
    else if c = 92 then
      match r with
      | [] => none
      | d :: r' => (parse r').map (Th.lit d :: ·)
    else (parse r).map (Th.lit c :: ·) := by rw [parse.eq_def]
theorem parse_star (r : List UInt8) : parse (42 :: r) = (parse r).map (Th.any :: ·) := by rw [parse_cons]; simp
theorem parse_one (r : List UInt8) : parse (63 :: r) = (parse r).map (Th.one :: ·) := by rw [parse_cons]; simp
theorem parse_set_none (r : List UInt8) (h : (r.drop 1).findIdx? (· == 93) = none) : parse (91 :: r) = none := by rw [parse_cons, if_neg (by decide), if_neg (by decide), if_pos rfl, h]
theorem parse_set_some (r : List UInt8) (n : Nat) (h : (r.drop 1).findIdx? (· == 93) = some n) : parse (91 :: r) = (parse (r.drop (n + 2))).map (Th.set (r.take (n + 1)) :: ·) := by rw [parse_cons, if_neg (by decide), if_neg (by decide), if_pos rfl, h]
theorem parse_esc_nil : parse [92] = none := by rw [parse_cons]; simp
theorem parse_esc (d : UInt8) (r : List UInt8) : parse (92 :: d :: r) = (parse r).map (Th.lit d :: ·) := by rw [parse_cons]; simp
theorem parse_lit (c : UInt8) (r : List UInt8) (h1 : c ≠ 42) (h2 : c ≠ 63) (h3 : c ≠ 91) (h4 : c ≠ 92) : parse (c :: r) = (parse r).map (Th.lit c :: ·) := by rw [parse_cons]; simp [h1, h2, h3, h4]

theorem findIdx_append {l : List UInt8} {n : Nat} (h : l.findIdx? (· == 93) = some n) (q : List UInt8) : (l ++ q).findIdx? (· == 93) = some n := by
  rw [List.findIdx?_append, h]; rfl
/-- Two right patterns, one behind the other. -/
theorem parse_append : ∀ (k : Nat) (p q : List UInt8) (a : List Th), p.length ≤ k → parse p = some a → parse (p ++ q) = (parse q).map (a ++ ·) := by
  intro k
  induction k with
  | zero =>
    intro p q a hk hp
    have : p = [] := List.eq_nil_of_length_eq_zero (by omega)
    subst this
    rw [parse_nil] at hp; cases hp
    rw [List.nil_append]; cases parse q <;> rfl
  | succ k ih =>
    intro p q a hk hp
    cases p with
    | nil => rw [parse_nil] at hp; cases hp; rw [List.nil_append]; cases parse q <;> rfl
    | cons c r =>
      have step : ∀ (x : Th) (s : List UInt8) (b : List Th), s.length ≤ k → parse s = some b → a = x :: b → parse (c :: r ++ q) = (parse (s ++ q)).map (x :: ·) → parse (c :: r ++ q) = (parse q).map (a ++ ·) := by
        intro x s b hs hb ha h
        rw [h, ih s q b hs hb, ha]
        cases parse q <;> simp
      simp only [List.length_cons] at hk
      by_cases h1 : c = 42
      · subst h1
        rw [parse_star] at hp
        obtain ⟨b, hb, e⟩ := Option.map_eq_some_iff.1 hp
        exact step .any r b (by omega) hb e.symm (by rw [List.cons_append, parse_star])
      by_cases h2 : c = 63
      · subst h2
        rw [parse_one] at hp
        obtain ⟨b, hb, e⟩ := Option.map_eq_some_iff.1 hp
        exact step .one r b (by omega) hb e.symm (by rw [List.cons_append, parse_one])
      by_cases h3 : c = 91
      · subst h3
        cases hn : (r.drop 1).findIdx? (· == 93) with
        | none => rw [parse_set_none r hn] at hp; cases hp
        | some n =>
          rw [parse_set_some r n hn] at hp
          obtain ⟨b, hb, e⟩ := Option.map_eq_some_iff.1 hp
          have hlt := (List.findIdx?_eq_some_iff_getElem.1 hn).1
          simp only [List.length_drop] at hlt
          have hd : ((r ++ q).drop 1).findIdx? (· == 93) = some n := by
            rw [List.drop_append_of_le_length (by omega)]
            exact findIdx_append hn q
          refine step (.set (r.take (n + 1))) (r.drop (n + 2)) b (by simp; omega) hb e.symm ?_
          rw [List.cons_append, parse_set_some _ n hd, List.drop_append_of_le_length (by omega), List.take_append_of_le_length (by omega)]
      by_cases h4 : c = 92
      · subst h4
        cases r with
        | nil => rw [parse_esc_nil] at hp; cases hp
        | cons d r =>
          rw [parse_esc] at hp
          obtain ⟨b, hb, e⟩ := Option.map_eq_some_iff.1 hp
          simp only [List.length_cons] at hk
          exact step (.lit d) r b (by omega) hb e.symm (by rw [List.cons_append, List.cons_append, parse_esc])
      · rw [parse_lit c r h1 h2 h3 h4] at hp
        obtain ⟨b, hb, e⟩ := Option.map_eq_some_iff.1 hp
        exact step (.lit c) r b (by omega) hb e.symm (by rw [List.cons_append, parse_lit c _ h1 h2 h3 h4])
theorem parse_app {p q : List UInt8} {a b : List Th} (hp : parse p = some a) (hq : parse q = some b) : parse (p ++ q) = some (a ++ b) := by
  rw [parse_append p.length p q a (Nat.le_refl _) hp, hq]; rfl
end Glob
end Go.Proofs.Ytojgdmpnbgikeaa
