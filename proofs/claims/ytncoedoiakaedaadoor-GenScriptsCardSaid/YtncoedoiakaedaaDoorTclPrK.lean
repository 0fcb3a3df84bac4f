/- Commands printed, in plain Lean; and that they are parsed as they were. No program in sight. Conditions: as they state. -/
import Derived.Test.YtncoedoiakaedaaDoorTclEqs
import Derived.Test.YtncoedoiakaedaaDoorTclWd
set_option linter.unusedVariables false
set_option linter.unusedSimpArgs false
namespace Go.Proofs.YtncoedoiakaedaaDoor
namespace Tcl
abbrev PK := Bool × List UInt8
abbrev WK := Int × List PK
abbrev CK := List WK
def plainB (c : UInt8) : Bool := 32 ≤ c && c ≤ 126 && c != 34 && c != 35 && c != 36 && c != 59 && c != 91 && c != 92 && c != 93 && c != 123 && c != 125
def octB (c : UInt8) : List UInt8 := [92, 48 + c / 64, 48 + c / 8 % 8, 48 + c % 8]
def escB (bare behind : Bool) (c : UInt8) : List UInt8 := if plainB c && !(bare && c == 32) && !(behind && nameB c) then [c] else octB c
def textB (bare behind : Bool) : List UInt8 → List UInt8
  | [] => []
  | c :: r => escB bare behind c ++ textB bare false r
/-- Is a text in braces just one word? -/
def wholeB (u : List UInt8) : Bool := match braced (123 :: (u ++ [125])) 0 0 0 with | .ok j => j == u.length + 2 | .error _ => false
/-- A part behind another one (`prev`: whether that is a variable). -/
def partK (kind : Int) (prev : Option Bool) (p : PK) : Option (List UInt8) :=
  if p.1 then (if kind = 2 ∨ p.2 = [] ∨ 64 < p.2.length ∨ p.2.all nameB = false then none else some (36 :: p.2))
  else if p.2 = [] ∨ prev = some false ∨ (kind = 2 ∧ wholeB p.2 = false) then none
  else if kind = 2 then some p.2 else some (textB (decide (kind = 0)) prev.isSome p.2)
def partsK (kind : Int) (prev : Option Bool) : List PK → Option (List UInt8)
  | [] => some []
  | p :: r => match partK kind prev p with
    | none => none
    | some x => match partsK kind (some p.1) r with
      | none => none
      | some y => some (x ++ y)
def wordK (w : WK) : Option (List UInt8) :=
  if w.1 < 0 ∨ 2 < w.1 ∨ (w.1 = 0 ∧ w.2 = []) ∨ (w.1 = 2 ∧ 1 < w.2.length) then none
  else match partsK w.1 none w.2 with
    | none => none
    | some x => some (if w.1 = 0 then x else if w.1 = 1 then 34 :: (x ++ [34]) else 123 :: (x ++ [125]))
/-- Words with blanks between, behind another one. -/
def moreK : List WK → Option (List UInt8)
  | [] => some []
  | w :: r => match wordK w with
    | none => none
    | some x => match moreK r with
      | none => none
      | some y => some (32 :: (x ++ y))
def cmdK (c : CK) : Option (List UInt8) :=
  match c with
  | [] => none
  | w :: r => match wordK w with
    | none => none
    | some x => match moreK r with
      | none => none
      | some y => some (x ++ y)
def printK : List CK → Option (List UInt8)
  | [] => some []
  | c :: r => match cmdK c with
    | none => none
    | some x => match printK r with
      | none => none
      | some y => some (x ++ 10 :: y)
theorem flush_nil' (l : List Part) : flush l [] = l := rfl
def toPart (p : PK) : Part := ⟨p.1, p.2⟩
theorem drop_cons' {s : List UInt8} {i : Nat} {c : UInt8} {r : List UInt8} (h : s.drop i = c :: r) : s[i]? = some c ∧ s.drop (i + 1) = r := by
  have h1 : s[i]? = some c := by rw [← List.head?_drop, h]; rfl
  refine ⟨h1, ?_⟩
  rw [← List.tail_drop, h]; rfl
theorem plain_facts : ∀ x : Fin 256, plainB (UInt8.ofNat x.val) = true → (UInt8.ofNat x.val ≠ 91 ∧ UInt8.ofNat x.val ≠ 92 ∧ UInt8.ofNat x.val ≠ 36 ∧ UInt8.ofNat x.val ≠ 34 ∧ UInt8.ofNat x.val ≠ 123 ∧ UInt8.ofNat x.val ≠ 35 ∧ UInt8.ofNat x.val ≠ 10 ∧ UInt8.ofNat x.val ≠ 9 ∧ UInt8.ofNat x.val ≠ 59) := by decide +kernel
theorem plain_fact {c : UInt8} (h : plainB c = true) : c ≠ 91 ∧ c ≠ 92 ∧ c ≠ 36 ∧ c ≠ 34 ∧ c ≠ 123 ∧ c ≠ 35 ∧ c ≠ 10 ∧ c ≠ 9 ∧ c ≠ 59 := by
  have := plain_facts ⟨c.toNat, c.toNat_lt⟩
  simp only [UInt8.ofNat_toNat] at this
  exact this h
theorem oct_facts : ∀ x : Fin 256, octal (48 + UInt8.ofNat x.val / 64) = true ∧ octal (48 + UInt8.ofNat x.val / 8 % 8) = true ∧ octal (48 + UInt8.ofNat x.val % 8) = true ∧
    UInt8.ofNat (((0 * 8 + ((48 + UInt8.ofNat x.val / 64).toNat - 48)) * 8 + ((48 + UInt8.ofNat x.val / 8 % 8).toNat - 48)) * 8 + ((48 + UInt8.ofNat x.val % 8).toNat - 48)) = UInt8.ofNat x.val := by decide +kernel
theorem oct_fact (c : UInt8) : octal (48 + c / 64) = true ∧ octal (48 + c / 8 % 8) = true ∧ octal (48 + c % 8) = true ∧
    UInt8.ofNat (((0 * 8 + ((48 + c / 64).toNat - 48)) * 8 + ((48 + c / 8 % 8).toNat - 48)) * 8 + ((48 + c % 8).toNat - 48)) = c := by
  have := oct_facts ⟨c.toNat, c.toNat_lt⟩
  simp only [UInt8.ofNat_toNat] at this
  exact this
/-- An octal byte is read as it was. -/
theorem esc_oct {s : List UInt8} {i : Nat} {c : UInt8} {r : List UInt8} (h : s.drop i = octB c ++ r) : esc s i = some (c, i + 4) ∧ s[i]? = some 92 ∧ s.drop (i + 4) = r := by
  obtain ⟨h0, h1⟩ := drop_cons' (h : s.drop i = 92 :: ((48 + c / 64) :: (48 + c / 8 % 8) :: (48 + c % 8) :: r))
  obtain ⟨h2, h3⟩ := drop_cons' h1
  obtain ⟨h4, h5⟩ := drop_cons' h3
  obtain ⟨h6, h7⟩ := drop_cons' h5
  obtain ⟨o1, o2, o3, o4⟩ := oct_fact c
  refine ⟨?_, h0, h7⟩
  unfold esc
  rw [h2]
  dsimp only
  rw [if_pos o1]
  have e : octals s (i + 1) 3 0 = (((0 * 8 + ((48 + c / 64).toNat - 48)) * 8 + ((48 + c / 8 % 8).toNat - 48)) * 8 + ((48 + c % 8).toNat - 48), i + 4) := by
    rw [octals, h2]; dsimp only; rw [if_pos o1]
    rw [octals, h4]; dsimp only; rw [if_pos o2]
    rw [octals, h6]; dsimp only; rw [if_pos o3]
    rw [octals]
  rw [e, o4]
/-- What stops a word, and what doesn't. -/
structure Stops (stop : UInt8 → Bool) (bare : Bool) : Prop where
  p : ∀ c, plainB c = true → (bare = true → c ≠ 32) → stop c = false
  b : stop 92 = false
  v : stop 36 = false
theorem stops_quote : Stops quoteB false := ⟨fun c h _ => by unfold quoteB; have := (plain_fact h).2.2.2.1; simpa using this, rfl, rfl⟩
theorem stops_bare : Stops stopB true := ⟨fun c h hb => by
  obtain ⟨-, -, -, -, -, -, h1, h2, h3⟩ := plain_fact h
  have h4 := hb rfl
  unfold stopB blankB endB
  simp [h1, h2, h3, h4], rfl, rfl⟩
theorem esc_step {stop : UInt8 → Bool} {bare behind : Bool} (hst : Stops stop bare) {s : List UInt8} {f : Option Nat} {i : Nat} {c : UInt8} {r : List UInt8} {l : List Part} {t : List UInt8} (h : s.drop i = escB bare behind c ++ r) :
    ∃ j, s.drop j = r ∧ i < j ∧ partsGo stop s f i l t = partsGo stop s f j l (t ++ [c]) := by
  unfold escB at h
  split at h
  · rename_i hp
    simp only [Bool.and_eq_true, Bool.not_eq_true', Bool.and_eq_false_imp] at hp
    obtain ⟨⟨hp, hb⟩, -⟩ := hp
    obtain ⟨h0, h1⟩ := drop_cons' (h : s.drop i = c :: r)
    have hs := hst.p c hp (fun e => by have := hb e; simpa using this)
    obtain ⟨p1, p2, p3, -⟩ := plain_fact hp
    refine ⟨i + 1, h1, by omega, ?_⟩
    rw [parts_some h0, hs, if_neg (by decide), if_neg p1, if_neg p2, if_neg p3]
  · obtain ⟨h1, h2, h3⟩ := esc_oct h
    refine ⟨i + 4, h3, by omega, ?_⟩
    rw [parts_some h2, hst.b, if_neg (by decide), if_neg (by decide), if_pos rfl, h1]
    simp only
    rw [if_pos (by omega)]
theorem text_step' {stop : UInt8 → Bool} {bare : Bool} (hst : Stops stop bare) {s : List UInt8} {f : Option Nat} {r : List UInt8} {l : List Part} : ∀ (u : List UInt8) (behind : Bool) (i : Nat) (t : List UInt8), s.drop i = textB bare behind u ++ r →
    ∃ j, s.drop j = r ∧ i ≤ j ∧ partsGo stop s f i l t = partsGo stop s f j l (t ++ u) := by
  intro u
  induction u with
  | nil => intro behind i t h; exact ⟨i, h, Nat.le_refl _, by simp⟩
  | cons c u ih =>
    intro behind i t h
    rw [textB, List.append_assoc] at h
    obtain ⟨j, h1, h2, h3⟩ := esc_step (f := f) (l := l) (t := t) hst h
    obtain ⟨k, h4, h5, h6⟩ := ih false j (t ++ [c]) h1
    exact ⟨k, h4, by omega, by rw [h3, h6]; simp⟩
theorem nameLen_all : ∀ (n r : List UInt8), n.all nameB = true → (∀ c, r.head? = some c → nameB c = false) → nameLen (n ++ r) = n.length := by
  intro n
  induction n with
  | nil =>
    intro r _ h
    cases r with
    | nil => rfl
    | cons c r => rw [List.nil_append, nameLen, h c rfl]; rfl
  | cons c n ih =>
    intro r h1 h2
    simp only [List.all_cons, Bool.and_eq_true] at h1
    rw [List.cons_append, nameLen, if_pos h1.1, ih r h1.2 h2]; rfl
theorem var_step {stop : UInt8 → Bool} {bare : Bool} (hst : Stops stop bare) {s : List UInt8} {f : Option Nat} {i : Nat} {n r : List UInt8} {l : List Part} {t : List UInt8} (h : s.drop i = 36 :: (n ++ r)) (hn : n ≠ []) (h6 : n.length ≤ 64) (ha : n.all nameB = true) (hr : ∀ c, r.head? = some c → nameB c = false) :
    s.drop (i + 1 + n.length) = r ∧ partsGo stop s f i l t = partsGo stop s f (i + 1 + n.length) (flush l t ++ [⟨true, n⟩]) [] := by
  obtain ⟨h0, h1⟩ := drop_cons' h
  have hl : nameLen (s.drop (i + 1)) = n.length := by rw [h1]; exact nameLen_all n r ha hr
  have hlen : n.length ≠ 0 := by intro h; exact hn (List.eq_nil_of_length_eq_zero h)
  refine ⟨by rw [← List.drop_drop, h1, List.drop_left], ?_⟩
  rw [parts_some h0, hst.v, if_neg (by decide), if_neg (by decide), if_neg (by decide), if_pos rfl, hl, if_neg (by omega), if_neg hlen, h1, List.take_left]
theorem oct_head (c : UInt8) (r : List UInt8) : (octB c ++ r).head? = some 92 := rfl
/-- Behind a variable no name's byte stands. -/
theorem parts_head {kind : Int} {ps : List PK} {x r : List UInt8} (hk : kind ≠ 2) (h : partsK kind (some true) ps = some x) (hr : ∀ c, r.head? = some c → nameB c = false) : ∀ c, (x ++ r).head? = some c → nameB c = false := by
  cases ps with
  | nil => rw [partsK] at h; cases h; exact hr
  | cons p ps =>
    rw [partsK] at h
    split at h
    · cases h
    · rename_i y hy
      split at h
      · cases h
      · rename_i z hz
        cases h
        unfold partK at hy
        split at hy
        · split at hy
          · cases hy
          · cases hy; intro c hc; cases hc; rfl
        · split at hy
          · cases hy
          · rename_i hne
            cases hy
            cases hp : p.2 with
            | nil => exact absurd (.inl hp) hne
            | cons c u =>
              intro d hd
              rw [textB] at hd
              unfold escB at hd
              split at hd
              · rename_i hx
                simp only [Bool.and_eq_true, Bool.not_eq_true', Bool.and_eq_false_imp] at hx
                simp at hd; subst hd
                exact hx.2 rfl
              · simp [octB] at hd; subst hd; rfl
/-- Printed parts are read as they were. -/
theorem parts_back {stop : UInt8 → Bool} {bare : Bool} {kind : Int} (hk : kind ≠ 2) (hbk : decide (kind = 0) = bare) (hst : Stops stop bare) {s : List UInt8} {f : Option Nat} {e : UInt8} {r : List UInt8} (he : stop e = true) (hen : nameB e = false) :
    ∀ (ps : List PK) (prev : Option Bool) (x : List UInt8) (i : Nat) (l : List Part) (t : List UInt8), partsK kind prev ps = some x → (prev = some false ∨ t = []) → s.drop i = x ++ e :: r →
    ∃ j, s.drop j = e :: r ∧ i ≤ j ∧ partsGo stop s f i l t = .ok (flush l t ++ ps.map toPart, j) := by
  intro ps
  induction ps with
  | nil =>
    intro prev x i l t h _ hs
    rw [partsK] at h; cases h
    obtain ⟨h0, -⟩ := drop_cons' (hs : s.drop i = e :: r)
    exact ⟨i, hs, Nat.le_refl _, by rw [parts_some h0, he, if_pos rfl]; simp⟩
  | cons p ps ih =>
    intro prev x i l t h hpt hs
    rw [partsK] at h
    split at h
    · cases h
    · rename_i y hy
      split at h
      · cases h
      · rename_i z hz
        cases h
        rw [List.append_assoc] at hs
        unfold partK at hy
        split at hy
        · rename_i hv
          split at hy
          · cases hy
          · rename_i hc
            cases hy
            have hc1 : p.2 ≠ [] := fun h => hc (.inr (.inl h))
            have hc2 : p.2.length ≤ 64 := by
              rcases Nat.lt_or_ge 64 p.2.length with h | h
              · exact absurd (.inr (.inr (.inl h))) hc
              · exact h
            have hc3 : p.2.all nameB = true := by
              cases h : p.2.all nameB with
              | true => rfl
              | false => exact absurd (.inr (.inr (.inr h))) hc
            rw [hv] at hz
            have hh := parts_head (r := e :: r) hk hz (fun c hc => by cases hc; exact hen)
            obtain ⟨h1, h2⟩ := var_step (f := f) (l := l) (t := t) hst hs hc1 hc2 hc3 hh
            obtain ⟨j, h3, h4, h5⟩ := ih (some true) z _ (flush l t ++ [⟨true, p.2⟩]) [] hz (.inr rfl) h1
            refine ⟨j, h3, by omega, ?_⟩
            rw [h2, h5]
            have e1 : toPart p = ⟨true, p.2⟩ := by unfold toPart; rw [hv]
            simp [flush, e1]
        · rename_i hv
          replace hv : p.1 = false := by simpa using hv
          split at hy
          · cases hy
          · rename_i hc
            rw [hbk] at hy
            cases hy
            have ht : t = [] := by
              rcases hpt with h | h
              · exact absurd (.inr (.inl h)) hc
              · exact h
            subst ht
            have hu : p.2 ≠ [] := fun h => hc (.inl h)
            obtain ⟨j, h1, h2, h3⟩ := text_step' (f := f) (l := l) hst p.2 prev.isSome i [] hs
            rw [hv] at hz
            obtain ⟨k, h4, h5, h6⟩ := ih (some false) z j l p.2 hz (.inl rfl) h1
            refine ⟨k, h4, by omega, ?_⟩
            rw [h3, List.nil_append, h6]
            have e1 : toPart p = ⟨false, p.2⟩ := by unfold toPart; rw [hv]
            unfold flush
            rw [if_neg hu, if_pos rfl, List.map_cons, e1]
            simp
end Tcl
end Go.Proofs.YtncoedoiakaedaaDoor
