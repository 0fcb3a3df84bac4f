/- TclErr, TclPrP, TclGreat, TclPr4, ReadsB, KdReads, LBack, TclBlK, TclSm, LBlanks: texts of mine, joined. Conditions: as they state. -/
import Derived.Test.YteodhnblbehenaaTclEqs
import Derived.Test.YteodhnblbehenaaTclBackK
import Derived.Test.YteodhnblbehenaaTclKd
import Derived.Deep.Cut
import Derived.Deep.CutBlock
import Derived.Deep.DeepCutAuto
import Derived.Deep.LoopGhost
import Derived.IntWalk
import Derived.Test.YteodhnblbehenaaTclPr3
import Derived.Test.YteodhnblbehenaaReads
import Derived.Test.YteodhnblbehenaaRows
import Derived.Test.YteodhnblbehenaaTclU8
import Derived.Test.YteodhnblbehenaaTclAlive
set_option linter.unusedVariables false
set_option linter.unusedSimpArgs false
namespace Go.Proofs.Yteodhnblbehenaa
namespace Tcl
theorem braced_err (s : List UInt8) (f : Nat) (hf : f ≤ s.length) : ∀ (k i d : Nat) (b : Bad), s.length - i ≤ k → braced s f i d = .error b → b.1 ≤ s.length := by
  intro k
  induction k with
  | zero =>
    intro i d b hk h
    rw [braced_none (List.getElem?_eq_none (by omega))] at h; cases h; exact hf
  | succ k ih =>
    intro i d b hk h
    cases hc : s[i]? with
    | none => rw [braced_none hc] at h; cases h; exact hf
    | some c =>
      have hl := lt_of_some hc
      rw [braced_some hc] at h
      split at h
      · exact ih _ _ _ (by omega) h
      · split at h
        · split at h
          · cases h; exact Nat.le_of_lt hl
          · exact ih _ _ _ (by omega) h
        · split at h
          · split at h
            · exact ih _ _ _ (by omega) h
            · cases h
          · exact ih _ _ _ (by omega) h
theorem parts_err (stop : UInt8 → Bool) (s : List UInt8) (f : Option Nat) (hf : ∀ x, f = some x → x ≤ s.length) : ∀ (k i : Nat) (l : List Part) (t : List UInt8) (b : Bad), s.length - i ≤ k → partsGo stop s f i l t = .error b → b.1 ≤ s.length := by
  intro k
  induction k with
  | zero =>
    intro i l t b hk h
    rw [parts_none (List.getElem?_eq_none (by omega))] at h; cases h
  | succ k ih =>
    intro i l t b hk h
    cases hc : s[i]? with
    | none => rw [parts_none hc] at h; cases h
    | some c =>
      have hl := lt_of_some hc
      rw [parts_some hc] at h
      split at h
      · cases h
      · split at h
        · cases h; exact Nat.le_of_lt hl
        · split at h
          · split at h
            · cases h
              cases f with
              | none => exact Nat.le_of_lt hl
              | some x => exact hf x rfl
            · split at h
              · exact ih _ _ _ _ (by omega) h
              · cases h; exact Nat.zero_le _
          · split at h
            · split at h
              · cases h; exact Nat.le_of_lt hl
              · split at h
                · exact ih _ _ _ _ (by omega) h
                · exact ih _ _ _ _ (by omega) h
            · exact ih _ _ _ _ (by omega) h
theorem behind_err {s : List UInt8} {j : Nat} {b : Bad} (h : behind s j = .error b) : b.1 ≤ s.length := by
  unfold behind at h
  split at h
  · rename_i c hc
    have := lt_of_some hc
    split at h
    · cases h
    · cases h; exact Nat.le_of_lt this
  · cases h
theorem word_err {s : List UInt8} {i : Nat} {c : UInt8} {b : Bad} (hi : i < s.length) (h : word s i c = .error b) : b.1 ≤ s.length := by
  unfold word at h
  split at h
  · split at h
    · rename_i b' hb
      cases h
      exact braced_err s i (Nat.le_of_lt hi) _ _ _ _ (Nat.le_refl _) hb
    · split at h
      · rename_i b' hb; cases h; exact behind_err hb
      · cases h
  · split at h
    · split at h
      · rename_i b' hb
        cases h
        exact parts_err _ s _ (fun x hx => by cases hx; exact Nat.le_of_lt hi) _ _ _ _ _ (Nat.le_refl _) hb
      · split at h
        · cases h; exact Nat.le_of_lt hi
        · split at h
          · rename_i b' hb; cases h; exact behind_err hb
          · cases h
    · split at h
      · rename_i b' hb
        cases h
        exact parts_err _ s _ (fun x hx => by cases hx) _ _ _ _ _ (Nat.le_refl _) hb
      · cases h
theorem command_err (s : List UInt8) : ∀ (k i : Nat) (ws : List Word) (b : Bad), s.length - i ≤ k → command s i ws = .error b → b.1 ≤ s.length := by
  intro k
  induction k with
  | zero =>
    intro i ws b hk h
    rw [command_none (List.getElem?_eq_none (by omega))] at h; cases h
  | succ k ih =>
    intro i ws b hk h
    cases hc : s[i]? with
    | none => rw [command_none hc] at h; cases h
    | some c =>
      have hl := lt_of_some hc
      rw [command_some hc] at h
      split at h
      · cases h
      · split at h
        · exact ih _ _ _ (by omega) h
        · split at h
          · rename_i b' hb; cases h; exact word_err hl hb
          · split at h
            · exact ih _ _ _ (by omega) h
            · cases h; exact Nat.zero_le _
theorem parseGo_err (s : List UInt8) : ∀ (k i : Nat) (l : List Cmd) (b : Bad), s.length - i ≤ k → parseGo s i l = .error b → b.1 ≤ s.length := by
  intro k
  induction k with
  | zero =>
    intro i l b hk h
    rw [parse_none (List.getElem?_eq_none (by omega))] at h; cases h
  | succ k ih =>
    intro i l b hk h
    cases hc : s[i]? with
    | none => rw [parse_none hc] at h; cases h
    | some c =>
      have hl := lt_of_some hc
      rw [parse_some hc] at h
      split at h
      · exact ih _ _ _ (by omega) h
      · split at h
        · split at h
          · exact ih _ _ _ (by omega) h
          · cases h; exact Nat.zero_le _
        · split at h
          · rename_i b' hb; cases h; exact command_err s _ _ _ _ (Nat.le_refl _) hb
          · split at h
            · exact ih _ _ _ (by omega) h
            · cases h; exact Nat.zero_le _
/-- An error's place is in the text. -/
theorem parse_err {s : List UInt8} {b : Bad} (h : parse s = .error b) : b.1 ≤ s.length := by
  unfold parse at h
  split at h
  · cases h; exact Nat.zero_le _
  · exact parseGo_err s _ _ _ _ (Nat.le_refl _) h
end Tcl
end Go.Proofs.Yteodhnblbehenaa
namespace Go.Proofs.Yteodhnblbehenaa
namespace Tcl
def cost1 (ps : List PK) : Nat := (ps.map fun p => 4 * p.2.length + 1).sum
theorem cost1_append (a b : List PK) : cost1 (a ++ b) = cost1 a + cost1 b := by unfold cost1; rw [List.map_append, List.sum_append]
/-- A part that can be printed. -/
def FineP (p : PK) : Prop := p.2 ≠ [] ∧ (p.1 = true → p.2.length ≤ 64 ∧ p.2.all nameB = true)
/-- Parts that can be printed, behind `prev`. -/
def Alt : Option Bool → List PK → Prop
  | _, [] => True
  | prev, p :: r => FineP p ∧ (p.1 = false → prev ≠ some false) ∧ Alt (some p.1) r
theorem alt_some {kd : Int} (hk : kd ≠ 2) : ∀ (ps : List PK) (prev : Option Bool), Alt prev ps → ∃ x, partsK kd prev ps = some x := by
  intro ps
  induction ps with
  | nil => intro prev _; exact ⟨[], rfl⟩
  | cons p r ih =>
    rintro prev ⟨⟨h1, h2⟩, h3, h4⟩
    obtain ⟨y, hy⟩ := ih _ h4
    obtain ⟨pv, u⟩ := p
    simp only at h1 h2 h3 h4 hy
    have hp : ∃ x, partK kd prev (pv, u) = some x := by
      unfold partK
      cases pv with
      | true =>
        obtain ⟨a, b⟩ := h2 rfl
        rw [if_pos rfl, if_neg (by rintro (h | h | h | h); exact hk h; exact h1 h; exact Nat.not_lt.2 a h; (rw [b] at h; cases h))]
        exact ⟨_, rfl⟩
      | false =>
        rw [if_neg (by simp), if_neg (by rintro (h | h | h); exact h1 h; exact h3 rfl h; exact hk h.1), if_neg hk]
        exact ⟨_, rfl⟩
    obtain ⟨x, hx⟩ := hp
    exact ⟨x ++ y, by rw [partsK, hx]; simp only; rw [hy]⟩
theorem alt_snoc {p : PK} : ∀ (ps : List PK) (prev : Option Bool), Alt prev ps → FineP p → (p.1 = false → ∀ q, (ps.getLast?.map (·.1)).or prev = some q → q = true) → Alt prev (ps ++ [p]) := by
  intro ps
  induction ps with
  | nil =>
    intro prev _ hf hl
    refine ⟨hf, fun h e => ?_, trivial⟩
    have := hl h false (by simp [e])
    cases this
  | cons q r ih =>
    rintro prev ⟨h1, h2, h3⟩ hf hl
    refine ⟨h1, h2, ih _ h3 hf fun h b hb => hl h b ?_⟩
    cases r with
    | nil => simpa using hb
    | cons a r =>
      rw [List.getLast?_cons_cons]
      have : ((a :: r).getLast?.map (·.1)) ≠ none := by simp
      cases hx : (a :: r).getLast?.map (·.1) with
      | none => exact absurd hx this
      | some z => rw [hx] at hb; simpa using hb
def keys (l : List Part) : List PK := l.map pkeyP
/-- No text stands last. -/
def OpenL (l : List Part) : Prop := ∀ p, l.getLast? = some p → p.var = true
theorem flush_alt {l : List Part} {t : List UInt8} (ha : Alt none (keys l)) (ho : OpenL l) : Alt none (keys (flush l t)) := by
  unfold flush
  split
  · exact ha
  · rename_i ht
    unfold keys
    rw [List.map_append]
    refine alt_snoc _ _ ha ⟨ht, fun h => by cases h⟩ fun _ q hq => ?_
    rw [Option.or_none, List.getLast?_map, Option.map_map] at hq
    cases h : l.getLast? with
    | none => rw [h] at hq; cases hq
    | some p =>
      rw [h] at hq
      have := ho p h
      cases hq
      exact this
theorem flush_cost (l : List Part) (t : List UInt8) : cost1 (keys (flush l t)) ≤ cost1 (keys l) + 4 * t.length + (if t = [] then 0 else 1) := by
  unfold flush keys
  split
  · rename_i h; subst h; simp
  · rw [List.map_append, cost1_append]
    simp [cost1, pkeyP]; omega
theorem name_all : ∀ (l : List UInt8), (l.take (nameLen l)).all nameB = true := by
  intro l
  induction l with
  | nil => rfl
  | cons c r ih =>
    rw [nameLen]
    split
    · rename_i h; rw [List.take_succ_cons]; simp [h, ih]
    · rfl
def w5 (l : List Part) (t : List UInt8) : Nat := cost1 (keys l) + 5 * t.length
theorem parts_fine (stop : UInt8 → Bool) (s : List UInt8) (f : Option Nat) : ∀ (k i : Nat) (l : List Part) (t : List UInt8) (r : List Part) (j : Nat), s.length - i ≤ k → Alt none (keys l) → OpenL l → partsGo stop s f i l t = .ok (r, j) →
    Alt none (keys r) ∧ cost1 (keys r) ≤ w5 l t + 5 * (j - i) ∧ i ≤ j ∧ (flush l t ≠ [] → r ≠ []) := by
  intro k
  induction k with
  | zero =>
    intro i l t r j hk ha ho h
    rw [parts_none (List.getElem?_eq_none (by omega))] at h
    cases h
    refine ⟨flush_alt ha ho, ?_, Nat.le_refl _, id⟩
    have := flush_cost l t
    unfold w5
    split at this
    · omega
    · rename_i hne
      have : t.length ≠ 0 := fun e => hne (List.eq_nil_of_length_eq_zero e)
      omega
  | succ k ih =>
    intro i l t r j hk ha ho h
    have hfin : (flush l t, i) = (r, j) → Alt none (keys r) ∧ cost1 (keys r) ≤ w5 l t + 5 * (j - i) ∧ i ≤ j ∧ (flush l t ≠ [] → r ≠ []) := fun e => by
      cases e
      refine ⟨flush_alt ha ho, ?_, Nat.le_refl _, id⟩
      have := flush_cost l t
      unfold w5
      split at this
      · omega
      · rename_i hne
        have : t.length ≠ 0 := fun e => hne (List.eq_nil_of_length_eq_zero e)
        omega
    have hadd : ∀ c i', i < i' → partsGo stop s f i' l (t ++ [c]) = .ok (r, j) → Alt none (keys r) ∧ cost1 (keys r) ≤ w5 l t + 5 * (j - i) ∧ i ≤ j ∧ (flush l t ≠ [] → r ≠ []) := fun c i' hi h => by
      obtain ⟨h1, h2, h3, h4⟩ := ih i' l (t ++ [c]) r j (by omega) ha ho h
      refine ⟨h1, ?_, by omega, fun _ => h4 ?_⟩
      · unfold w5 at h2 ⊢; rw [List.length_append] at h2; simp at h2; omega
      · unfold flush; rw [if_neg (by simp)]; simp
    cases hc : s[i]? with
    | none => rw [parts_none hc] at h; exact hfin (by cases h; rfl)
    | some c =>
      have hl := lt_of_some hc
      rw [parts_some hc] at h
      split at h
      · exact hfin (by cases h; rfl)
      · split at h
        · cases h
        · split at h
          · split at h
            · cases h
            · rename_i x j' he
              split at h
              · rename_i hij; exact hadd _ _ hij h
              · cases h
          · split at h
            · split at h
              · cases h
              · rename_i h64
                split at h
                · exact hadd _ _ (by omega) h
                · rename_i hn0
                  have hn := nameLen_le (s.drop (i + 1))
                  rw [List.length_drop] at hn
                  have hf : FineP (true, (s.drop (i + 1)).take (nameLen (s.drop (i + 1)))) := by
                    refine ⟨fun e => ?_, fun _ => ⟨by rw [List.length_take]; omega, name_all _⟩⟩
                    have e2 : (s.drop (i + 1)).take (nameLen (s.drop (i + 1))) = [] := e
                    have : ((s.drop (i + 1)).take (nameLen (s.drop (i + 1)))).length = 0 := by rw [e2]; rfl
                    rw [List.length_take, List.length_drop] at this
                    omega
                  have ha2 : Alt none (keys (flush l t ++ [⟨true, (s.drop (i + 1)).take (nameLen (s.drop (i + 1)))⟩])) := by
                    unfold keys
                    rw [List.map_append]
                    exact alt_snoc _ _ (flush_alt ha ho) hf (fun h => by cases h)
                  have ho2 : OpenL (flush l t ++ [⟨true, (s.drop (i + 1)).take (nameLen (s.drop (i + 1)))⟩]) := fun p hp => by
                    rw [List.getLast?_append] at hp; simp at hp; rw [← hp]
                  obtain ⟨h1, h2, h3, h4⟩ := ih _ _ _ r j (by omega) ha2 ho2 h
                  refine ⟨h1, ?_, by omega, fun _ => h4 (by unfold flush; simp)⟩
                  have hfc := flush_cost l t
                  have hcc : cost1 (keys (flush l t ++ [⟨true, (s.drop (i + 1)).take (nameLen (s.drop (i + 1)))⟩])) = cost1 (keys (flush l t)) + (4 * (nameLen (s.drop (i + 1))) + 1) := by
                    have e1 : cost1 (keys [(⟨true, (s.drop (i + 1)).take (nameLen (s.drop (i + 1)))⟩ : Part)]) = 4 * (nameLen (s.drop (i + 1))) + 1 := by
                      show (4 * ((s.drop (i + 1)).take (nameLen (s.drop (i + 1)))).length + 1) + 0 = _
                      rw [List.length_take, List.length_drop, Nat.min_eq_left hn]
                    unfold keys at e1 ⊢
                    rw [List.map_append, cost1_append, e1]
                  unfold w5 at h2 ⊢
                  rw [hcc] at h2
                  simp only [List.length_nil] at h2
                  split at hfc
                  · omega
                  · rename_i hne
                    have : t.length ≠ 0 := fun e => hne (List.eq_nil_of_length_eq_zero e)
                    omega
            · exact hadd _ _ (by omega) h
theorem braced_end (s : List UInt8) (f : Nat) : ∀ (k i d j : Nat), s.length - i ≤ k → braced s f i d = .ok j → s[j - 1]? = some 125 := by
  intro k
  induction k with
  | zero =>
    intro i d j hk h
    rw [braced_none (List.getElem?_eq_none (by omega))] at h; cases h
  | succ k ih =>
    intro i d j hk h
    cases hc : s[i]? with
    | none => rw [braced_none hc] at h; cases h
    | some c =>
      have hl := lt_of_some hc
      rw [braced_some hc] at h
      split at h
      · exact ih _ _ _ (by omega) h
      · split at h
        · split at h
          · cases h
          · exact ih _ _ _ (by omega) h
        · split at h
          · rename_i h3
            split at h
            · exact ih _ _ _ (by omega) h
            · cases h; subst h3; exact hc
          · exact ih _ _ _ (by omega) h
def c4 (w : Word) : Nat := cost1 (wkeyP w).2 + 4
def Prt (w : Word) : Prop := ∃ x, wordK (wkeyP w) = some x
theorem word_fine {s : List UInt8} {i : Nat} {c : UInt8} {wd : Word} {j : Nat} (hc : s[i]? = some c) (hs : stopB c = false) (h : word s i c = .ok (wd, j)) : Prt wd ∧ c4 wd ≤ 9 * (j - i) := by
  have hl := lt_of_some hc
  have hnil : Alt none (keys []) := trivial
  have hop : OpenL [] := fun p h => by cases h
  unfold word at h
  split at h
  · rename_i h123
    subst h123
    split at h
    · cases h
    · rename_i j' hb
      have hbd := braced_bound s i (s.length - i) i 0 j' (Nat.le_refl _) hb
      have he := braced_end s i (s.length - i) i 0 j' (Nat.le_refl _) hb
      split at h
      · cases h
      · cases h
        have h2 : i + 1 < j := by
          rcases Nat.lt_or_ge (i + 1) j with h | h
          · exact h
          · have : j - 1 = i := by omega
            rw [this, hc] at he; cases he
        by_cases hj : j = i + 2
        · rw [if_pos hj]
          refine ⟨⟨[123, 125], ?_⟩, ?_⟩
          · show wordK ((2 : Int), []) = _
            rfl
          · show 0 + 4 ≤ _; omega
        · rw [if_neg hj]
          have hul : (sub s (i + 1) (j - 1)).length = j - 1 - (i + 1) := by unfold sub; rw [List.length_drop, List.length_take]; omega
          have hy : s.drop i = (123 :: (sub s (i + 1) (j - 1) ++ [125])) ++ s.drop j := by
            have e1 : s.drop i = 123 :: s.drop (i + 1) := by
              obtain ⟨hl', he'⟩ := List.getElem?_eq_some_iff.1 hc
              rw [List.drop_eq_getElem_cons hl', he']
            have e2 : s.drop (i + 1) = sub s (i + 1) (j - 1) ++ s.drop (j - 1) := by
              unfold sub
              conv => lhs; rw [← List.take_append_drop (j - 1) s]
              rw [List.drop_append_of_le_length (by rw [List.length_take]; omega)]
            have e3 : s.drop (j - 1) = 125 :: s.drop j := by
              obtain ⟨hl', he'⟩ := List.getElem?_eq_some_iff.1 he
              rw [List.drop_eq_getElem_cons hl', he', show j - 1 + 1 = j by omega]
            rw [e1, e2, e3]; simp
          have hw : wholeB (sub s (i + 1) (j - 1)) = true := by
            have := braced_loc (s' := 123 :: (sub s (i + 1) (j - 1) ++ [125])) (f' := 0) (j - i) (123 :: (sub s (i + 1) (j - 1) ++ [125])) (s.drop j) [] i 0 0 j (by simp; omega) hy (by simp) hb (by simp; omega)
            unfold wholeB
            rw [this]
            simp; omega
          have hne : sub s (i + 1) (j - 1) ≠ [] := fun e => by rw [e] at hul; simp at hul; omega
          refine ⟨⟨123 :: (sub s (i + 1) (j - 1) ++ [125]), ?_⟩, ?_⟩
          · show wordK ((2 : Int), [(false, sub s (i + 1) (j - 1))]) = _
            unfold wordK
            rw [if_neg (by simp)]
            have hp : partsK 2 none [(false, sub s (i + 1) (j - 1))] = some (sub s (i + 1) (j - 1)) := by
              rw [partsK]
              have : partK 2 none (false, sub s (i + 1) (j - 1)) = some (sub s (i + 1) (j - 1)) := by
                unfold partK
                rw [if_neg (by simp), if_neg (by simp [hne, hw]), if_pos rfl]
              rw [this]
              simp [partsK]
            rw [hp]
            simp
          · show (4 * (sub s (i + 1) (j - 1)).length + 1) + 0 + 4 ≤ _
            omega
  · split at h
    · split at h
      · cases h
      · rename_i ps j' hb
        obtain ⟨h1, h2, h3, -⟩ := parts_fine quoteB s (some i) (s.length - (i + 1)) (i + 1) [] [] ps j' (Nat.le_refl _) hnil hop hb
        have hbd := parts_bound _ s _ (s.length - (i + 1)) (i + 1) [] [] ps j' (Nat.le_refl _) (by omega) hb
        split at h
        · cases h
        · split at h
          · cases h
          · cases h
            obtain ⟨x, hx⟩ := alt_some (kd := 1) (by decide) _ _ h1
            refine ⟨⟨34 :: (x ++ [34]), ?_⟩, ?_⟩
            · show wordK ((1 : Int), keys ps) = _
              unfold wordK
              rw [if_neg (by simp)]
              simp only [hx]
              simp
            · show cost1 (keys ps) + 4 ≤ _
              simp only [w5, keys, cost1, List.map_nil, List.sum_nil, List.length_nil] at h2 ⊢
              omega
    · rename_i hn123 hn34
      split at h
      · cases h
      · rename_i ps j' hb
        have hmore := parts_more hc hs hb
        obtain ⟨h1, h2, h3, -⟩ := parts_fine stopB s none (s.length - i) i [] [] ps j' (Nat.le_refl _) hnil hop hb
        have hne : ps ≠ [] := by
          intro e
          subst e
          -- the first step leaves something
          have hstep := hb
          rw [parts_some hc, hs, if_neg (by decide)] at hstep
          split at hstep
          · cases hstep
          · split at hstep
            · split at hstep
              · cases hstep
              · split at hstep
                · exact absurd rfl ((parts_fine stopB s none _ _ _ _ _ _ (Nat.le_refl _) hnil hop hstep).2.2.2 (by unfold flush; rw [if_neg (by simp)]; simp))
                · cases hstep
            · split at hstep
              · split at hstep
                · cases hstep
                · split at hstep
                  · exact absurd rfl ((parts_fine stopB s none _ _ _ _ _ _ (Nat.le_refl _) hnil hop hstep).2.2.2 (by unfold flush; rw [if_neg (by simp)]; simp))
                  · rename_i h64 hn0
                    have hn := nameLen_le (s.drop (i + 1))
                    rw [List.length_drop] at hn
                    have hf : FineP (true, (s.drop (i + 1)).take (nameLen (s.drop (i + 1)))) := by
                      refine ⟨fun e2 => ?_, fun _ => ⟨by show ((s.drop (i + 1)).take (nameLen (s.drop (i + 1)))).length ≤ 64; rw [List.length_take]; omega, name_all _⟩⟩
                      have e3 : (s.drop (i + 1)).take (nameLen (s.drop (i + 1))) = [] := e2
                      have : ((s.drop (i + 1)).take (nameLen (s.drop (i + 1)))).length = 0 := by rw [e3]; rfl
                      rw [List.length_take, List.length_drop] at this
                      omega
                    have ha : Alt none (keys (flush [] [] ++ [⟨true, (s.drop (i + 1)).take (nameLen (s.drop (i + 1)))⟩])) := ⟨hf, (fun h => by cases h), trivial⟩
                    exact absurd rfl ((parts_fine stopB s none _ _ _ _ _ _ (Nat.le_refl _) ha (fun p hp => by simp [flush] at hp; rw [← hp]) hstep).2.2.2 (by unfold flush; simp))
              · exact absurd rfl ((parts_fine stopB s none _ _ _ _ _ _ (Nat.le_refl _) hnil hop hstep).2.2.2 (by unfold flush; rw [if_neg (by simp)]; simp))
        cases h
        obtain ⟨x, hx⟩ := alt_some (kd := 0) (by decide) _ _ h1
        refine ⟨⟨x, ?_⟩, ?_⟩
        · show wordK ((0 : Int), keys ps) = _
          unfold wordK
          have hk : keys ps ≠ [] := fun e => hne (List.map_eq_nil_iff.1 e)
          rw [if_neg (by simp [hk])]
          simp only [hx]
          simp
        · show cost1 (keys ps) + 4 ≤ _
          simp only [w5, keys, cost1, List.map_nil, List.sum_nil, List.length_nil] at h2 ⊢
          omega
theorem command_fine (s : List UInt8) : ∀ (k i : Nat) (ws r : List Word) (j : Nat), s.length - i ≤ k → (∀ w ∈ ws, Prt w) → command s i ws = .ok (r, j) →
    (∀ w ∈ r, Prt w) ∧ (r.map c4).sum ≤ (ws.map c4).sum + 9 * (j - i) ∧ i ≤ j ∧ (ws ≠ [] → r ≠ []) := by
  intro k
  induction k with
  | zero =>
    intro i ws r j hk hw h
    rw [command_none (List.getElem?_eq_none (by omega))] at h
    cases h
    exact ⟨hw, by omega, Nat.le_refl _, id⟩
  | succ k ih =>
    intro i ws r j hk hw h
    cases hc : s[i]? with
    | none => rw [command_none hc] at h; cases h; exact ⟨hw, by omega, Nat.le_refl _, id⟩
    | some c =>
      have hl := lt_of_some hc
      rw [command_some hc] at h
      split at h
      · cases h; exact ⟨hw, by omega, Nat.le_refl _, id⟩
      · rename_i he
        split at h
        · obtain ⟨h1, h2, h3, h4⟩ := ih _ _ _ _ (by omega) hw h
          exact ⟨h1, by omega, by omega, h4⟩
        · rename_i hb
          split at h
          · cases h
          · rename_i w j' hwd
            split at h
            · rename_i hij
              have hst : stopB c = false := by simp [stopB]; exact ⟨by simpa using hb, by simpa using he⟩
              obtain ⟨f1, f2⟩ := word_fine hc hst hwd
              obtain ⟨h1, h2, h3, h4⟩ := ih _ _ _ _ (by omega) (by
                intro x hx
                rcases List.mem_append.1 hx with h | h
                · exact hw x h
                · simp at h; subst h; exact f1) h
              refine ⟨h1, ?_, by omega, fun _ => h4 (by simp)⟩
              rw [List.map_append, List.sum_append] at h2
              simp at h2; omega
            · cases h
theorem command_words {s : List UInt8} {i : Nat} {c : UInt8} {r : List Word} {j : Nat} (hc : s[i]? = some c) (hs : stopB c = false) (h : command s i [] = .ok (r, j)) : r ≠ [] := by
  have he : endB c = false := by simp [stopB] at hs; exact hs.2
  have hb : blankB c = false := by simp [stopB] at hs; exact hs.1
  rw [command_some hc, he, if_neg (by decide), hb, if_neg (by decide)] at h
  split at h
  · cases h
  · rename_i w j' hwd
    split at h
    · obtain ⟨f1, f2⟩ := word_fine hc hs hwd
      exact (command_fine s _ _ _ _ _ (Nat.le_refl _) (by intro x hx; simp at hx; subst hx; exact f1) h).2.2.2 (by simp)
    · cases h
theorem more_some : ∀ (ws : List Word), (∀ w ∈ ws, Prt w) → ∃ y, moreK (ws.map wkeyP) = some y := by
  intro ws
  induction ws with
  | nil => intro _; exact ⟨[], rfl⟩
  | cons w r ih =>
    intro h
    obtain ⟨x, hx⟩ := h w (by simp)
    obtain ⟨y, hy⟩ := ih (fun v hv => h v (by simp [hv]))
    exact ⟨32 :: (x ++ y), by rw [List.map_cons, moreK, hx]; simp only; rw [hy]⟩
theorem cmd_some {ws : List Word} (h : ∀ w ∈ ws, Prt w) (hn : ws ≠ []) : ∃ y, cmdK (ws.map wkeyP) = some y := by
  cases ws with
  | nil => exact absurd rfl hn
  | cons w r =>
    obtain ⟨x, hx⟩ := h w (by simp)
    obtain ⟨y, hy⟩ := more_some r (fun v hv => h v (by simp [hv]))
    exact ⟨x ++ y, by rw [List.map_cons, cmdK, hx]; simp only; rw [hy]⟩
def PrtC (c : Cmd) : Prop := ∃ y, cmdK (ckeyP c) = some y
def c5 (c : Cmd) : Nat := (c.words.map c4).sum + 1
theorem parse_fine (s : List UInt8) : ∀ (k i : Nat) (l r : List Cmd), s.length - i ≤ k → (∀ c ∈ l, PrtC c) → parseGo s i l = .ok r → (∀ c ∈ r, PrtC c) ∧ (r.map c5).sum ≤ (l.map c5).sum + 10 * (s.length - i) := by
  intro k
  induction k with
  | zero =>
    intro i l r hk hp h
    rw [parse_none (List.getElem?_eq_none (by omega))] at h
    cases h
    exact ⟨hp, by omega⟩
  | succ k ih =>
    intro i l r hk hp h
    cases hc : s[i]? with
    | none => rw [parse_none hc] at h; cases h; exact ⟨hp, by omega⟩
    | some c =>
      have hl := lt_of_some hc
      rw [parse_some hc] at h
      split at h
      · obtain ⟨h1, h2⟩ := ih _ _ _ (by omega) hp h
        exact ⟨h1, by omega⟩
      · rename_i hst
        split at h
        · split at h
          · rename_i hpos
            obtain ⟨h1, h2⟩ := ih _ _ _ (by omega) hp h
            exact ⟨h1, by omega⟩
          · cases h
        · split at h
          · cases h
          · rename_i ws j hcm
            split at h
            · rename_i hij
              have hs : stopB c = false := by simpa using hst
              have hbd := command_bound s (s.length - i) i [] ws j (Nat.le_refl _) (by omega) hcm
              obtain ⟨g1, g2, g3, -⟩ := command_fine s (s.length - i) i [] ws j (Nat.le_refl _) (by simp) hcm
              have hne := command_words hc hs hcm
              obtain ⟨h1, h2⟩ := ih _ _ _ (by omega) (by
                intro x hx
                rcases List.mem_append.1 hx with h | h
                · exact hp x h
                · simp at h; subst h; exact cmd_some g1 hne) h
              refine ⟨h1, ?_⟩
              rw [List.map_append, List.sum_append] at h2
              simp [c5] at h2 g2 ⊢
              omega
            · cases h
theorem print_some : ∀ (cs : List Cmd), (∀ c ∈ cs, PrtC c) → ∃ t, printK (cs.map ckeyP) = some t := by
  intro cs
  induction cs with
  | nil => intro _; exact ⟨[], rfl⟩
  | cons c r ih =>
    intro h
    obtain ⟨x, hx⟩ := h c (by simp)
    obtain ⟨y, hy⟩ := ih (fun v hv => h v (by simp [hv]))
    exact ⟨x ++ 10 :: y, by rw [List.map_cons, printK, hx]; simp only; rw [hy]⟩
/-- What is parsed can be printed. -/
theorem parse_print {s : List UInt8} {cs : List Cmd} (h : parse s = .ok cs) : (∃ t, printK (cs.map ckeyP) = some t) ∧ (cs.map c5).sum ≤ 10 * s.length := by
  unfold parse at h
  split at h
  · cases h
  · obtain ⟨h1, h2⟩ := parse_fine s s.length 0 [] cs (by omega) (by simp) h
    exact ⟨print_some cs h1, by simpa using h2⟩
end Tcl
end Go.Proofs.Yteodhnblbehenaa
namespace Go.Proofs.Yteodhnblbehenaa
open Go.RowKit Tcl PTclParses YteodhnblbehenaaW.PrintWords
set_option maxRecDepth 100000 in
set_option maxHeartbeats 8000000 in
theorem great_any (w : World) (A : Option Addr) (n c : Nat) (l : List S33) (hn : n = l.length) (hn9 : n ≤ 9223372036854775807) (hk : k33.C w A n l) (hsm : ∀ x ∈ l, x.f1.length ≤ 9223372036854775807 ∧ ∀ y ∈ x.f1, y.f2.length ≤ 9223372036854775807) :
    Calls Try.prog 16 #[.slice A n c] w fun e w' => (∃ b, e = .returned (.bool b)) ∧ Chg [] w w' := by
  replace hk := Lib.hid hk
  replace hn := Lib.hid hn
  replace hsm := Lib.hid hsm
  go_enter Try.func16, Try.ntmps16
  go_wp2_with fail
  go_loopg [3, 12] n (fun gk v3 v12 wr => ∃ (i : Nat) (x : Int), v3 = .int .i64 x ∧ v12 = .int .i64 i ∧ i ≤ n ∧ gk = n - i ∧ Hid (Chg [] w wr))
  case atStart => exact ⟨0, 0, rfl, rfl, by omega, by omega, Lib.hid (Chg.refl _ _)⟩
  case round =>
    obtain ⟨i, x, rfl, rfl, hi, rfl, hC⟩ := hrel
    by_cases hlt : i < n
    · have hil : i < l.length := by have := hn.out; omega
      obtain ⟨ad, A1, c1, rfl, q1, q2, hc1, hk1⟩ := at_T33 hk.out (i : Int) (by omega) (by omega)
      replace q1 := hC.out.cell q1 (by simp)
      replace q2 := hC.out.cell q2 (by simp)
      have er : rd_T33 l (i : Int) = l[i] := by unfold rd_T33; simp [List.getD, hil]
      rw [er] at q1 q2 hc1 hk1
      clear er
      simp only [Int.toNat_natCast] at q1 q2
      have hs1 := hsm.out l[i] (List.getElem_mem hil)
      generalize l[i] = cm at q1 q2 hc1 hk1 hs1
      obtain ⟨at_, ws⟩ := cm
      simp only at q1 q2 hc1 hk1 hs1
      obtain ⟨hs1, hs2⟩ := hs1
      obtain ⟨m, hm⟩ : ∃ m, ws.length = m := ⟨_, rfl⟩
      rw [hm] at q2 hc1 hk1 hs1
      replace hm := Lib.hid hm
      replace hk1 := Lib.hid hk1
      replace hs2 := Lib.hid hs2
      have hC6 := Lib.hid (hC.out.alloc (.cells #[.int .i64 at_, .slice A1 m c1] 33))
      clear hC
      go_upto_block 2 with (fail)
      generalize wr.alloc (.cells #[.int .i64 at_, .slice A1 m c1] 33) = w6 at hC6 ⊢
      clear q1 q2
      go_wp2
      go_loopg [3, 25] m (fun gk v3 v25 wx => ∃ (j : Nat) (x : Int), v3 = .int .i64 x ∧ v25 = .int .i64 j ∧ j ≤ m ∧ gk = m - j ∧ Hid (Chg [] w wx))
      case atStart => exact ⟨0, _, rfl, rfl, by omega, by omega, hC6⟩
      case round =>
        obtain ⟨j, x2, rfl, rfl, hj, rfl, hC7⟩ := hrel
        clear hC6
        by_cases hlt2 : j < m
        · have hjl : j < ws.length := by have := hm.out; omega
          obtain ⟨ad2, A2, c2, rfl, z0, z1, z2, hc2, hk2⟩ := at_T38 hk1.out (j : Int) (by omega) (by omega)
          replace z0 := hC7.out.cell z0 (by simp)
          replace z1 := hC7.out.cell z1 (by simp)
          replace z2 := hC7.out.cell z2 (by simp)
          have er : rd_T38 ws (j : Int) = ws[j] := by unfold rd_T38; simp [List.getD, hjl]
          rw [er] at z0 z1 z2 hc2 hk2
          clear er
          simp only [Int.toNat_natCast] at z0 z1 z2
          have hs3 := hs2.out ws[j] (List.getElem_mem hjl)
          generalize ws[j] = wd at z0 z1 z2 hc2 hk2 hs3
          obtain ⟨wat, kd, ps⟩ := wd
          simp only at z0 z1 z2 hc2 hk2 hs3
          obtain ⟨q, hq⟩ : ∃ q, ps.length = q := ⟨_, rfl⟩
          rw [hq] at z2 hc2 hk2 hs3
          replace hq := Lib.hid hq
          replace hk2 := Lib.hid hk2
          have hC8 := Lib.hid (hC7.out.alloc (.cells #[.int .i64 wat, .int .i64 kd, .slice A2 q c2] 38))
          clear hC7
          go_upto_block 4 with (fail)
          generalize wr.alloc (.cells #[.int .i64 wat, .int .i64 kd, .slice A2 q c2] 38) = w8 at hC8 ⊢
          clear z0 z1 z2
          go_wp2
          go_loopg [3, 37] q (fun gk v3 v37 wx => ∃ (k : Nat) (x : Int), v3 = .int .i64 x ∧ v37 = .int .i64 k ∧ k ≤ q ∧ gk = q - k ∧ Hid (Chg [] w wx))
          case atStart => exact ⟨0, _, rfl, rfl, by omega, by omega, hC8⟩
          case round =>
            obtain ⟨k, x3, rfl, rfl, hkk, rfl, hC9⟩ := hrel
            clear hC8
            by_cases hlt3 : k < q
            · have hkl : k < ps.length := by have := hq.out; omega
              obtain ⟨ad3, rfl, y0, y1⟩ := at_T41 hk2.out (k : Int) (by omega) (by omega)
              replace y0 := hC9.out.cell y0 (by simp)
              replace y1 := hC9.out.cell y1 (by simp)
              have er : rd_T41 ps (k : Int) = ps[k] := by unfold rd_T41; simp [List.getD, hkl]
              rw [er] at y0 y1
              clear er
              simp only [Int.toNat_natCast] at y0 y1
              generalize ps[k] = p at y0 y1
              obtain ⟨pv, st⟩ := p
              simp only at y0 y1
              have hC10 := Lib.hid (hC9.out.alloc (.cells #[.bool pv, .string st] 41))
              go_wp2_with fail
              go_roundg (q - (k + 1))
              case measure => omega
              case rel => exact ⟨k + 1, _, rfl, by go_num, by omega, rfl, hC10⟩
            · obtain rfl : k = q := by omega
              go_wp2_with fail
              go_roundg (m - (j + 1))
              case measure => omega
              case rel => exact ⟨j + 1, _, rfl, by go_num, by omega, rfl, hC9⟩
        · obtain rfl : j = m := by omega
          go_wp2_with fail
          go_roundg (n - (i + 1))
          case measure => omega
          case rel => exact ⟨i + 1, _, rfl, by go_num, by omega, rfl, hC7⟩
    · obtain rfl : i = n := by omega
      go_wp2_with fail
      go_ret
      exact ⟨⟨_, rfl⟩, hC.out⟩
end Go.Proofs.Yteodhnblbehenaa
namespace Go.Proofs.Yteodhnblbehenaa
open Go.RowKit Tcl PTclParses YteodhnblbehenaaW.PrintWords
theorem parts_len {kd : Int} : ∀ (ps : List PK) (prev : Option Bool) (x : List UInt8), partsK kd prev ps = some x → x.length ≤ costK ps := by
  intro ps
  induction ps with
  | nil => intro prev x h; rw [partsK] at h; cases h; exact Nat.zero_le _
  | cons p ps ih =>
    intro prev x h
    rw [partsK] at h
    split at h
    · cases h
    · rename_i y hy
      split at h
      · cases h
      · rename_i z hz
        cases h
        have h1 := ih _ _ hz
        have h2 : y.length ≤ 4 * p.2.length + 1 := by
          unfold partK at hy
          split at hy
          · split at hy
            · cases hy
            · cases hy; simp only [List.length_cons]; omega
          · split at hy
            · cases hy
            · split at hy
              · cases hy; omega
              · cases hy
                have := textB_len (decide (kd = 0)) p.2 prev.isSome; omega
        simp only [costK, List.map_cons, List.sum_cons] at h1 ⊢
        rw [List.length_append]; omega
theorem word_len {W : WK} {x : List UInt8} (h : wordK W = some x) : x.length ≤ costK W.2 + 2 := by
  unfold wordK at h
  split at h
  · cases h
  · split at h
    · cases h
    · rename_i y hy
      have := parts_len _ _ _ hy
      cases h
      split
      · omega
      · split <;> simp <;> omega
def costW (W : WK) : Nat := costK W.2 + 4
def costC (c : CK) : Nat := (c.map costW).sum + 1
def costL (l : List CK) : Nat := (l.map costC).sum
theorem sum_get {α : Type} (f : α → Nat) {l : List α} {i : Nat} {a : α} (h : l[i]? = some a) : ((l.take i).map f).sum + f a = ((l.take (i + 1)).map f).sum := by
  rw [List.take_add_one, h]; simp
theorem sum_take {α : Type} (f : α → Nat) (l : List α) (i : Nat) : ((l.take i).map f).sum ≤ (l.map f).sum := by
  conv => rhs; rw [← List.take_append_drop i l]
  rw [List.map_append, List.sum_append]; omega
theorem sum_len {α : Type} (f : α → Nat) (hf : ∀ a, 1 ≤ f a) (l : List α) : l.length ≤ (l.map f).sum := by
  induction l with
  | nil => exact Nat.zero_le _
  | cons a l ih => have := hf a; simp; omega
/-- Words behind `j` others. -/
def restK (j : Nat) (ws : CK) : Option (List UInt8) := if j = 0 then cmdK ws else moreK ws
def RunW (c : CK) (j : Nat) (Y : List UInt8) : Prop := cmdK c = (restK j (c.drop j)).map (Y ++ ·)
theorem runW_init (c : CK) : RunW c 0 [] := by
  unfold RunW restK
  rw [if_pos rfl, List.drop_zero]
  cases cmdK c <;> simp
theorem runW_none {c : CK} {j : Nat} {Y : List UInt8} {W : WK} (h : RunW c j Y) (hW : c[j]? = some W) (hn : wordK W = none) : cmdK c = none := by
  obtain ⟨hl, he⟩ := List.getElem?_eq_some_iff.1 hW
  rw [h, List.drop_eq_getElem_cons hl, he]
  unfold restK
  split
  · rw [cmdK, hn]; rfl
  · rw [moreK, hn]; rfl
theorem runW_some {c : CK} {j : Nat} {Y x : List UInt8} {W : WK} (h : RunW c j Y) (hW : c[j]? = some W) (hn : wordK W = some x) : RunW c (j + 1) (Y ++ ((if j = 0 then [] else [32]) ++ x)) := by
  obtain ⟨hl, he⟩ := List.getElem?_eq_some_iff.1 hW
  unfold RunW at h ⊢
  rw [h, List.drop_eq_getElem_cons hl, he]
  unfold restK
  rw [if_neg (show ¬ j + 1 = 0 by omega)]
  by_cases hj : j = 0
  · rw [if_pos hj, if_pos hj, cmdK, hn]
    cases moreK (c.drop (j + 1)) <;> simp
  · rw [if_neg hj, if_neg hj, moreK, hn]
    cases moreK (c.drop (j + 1)) <;> simp
theorem runW_end {c : CK} {Y : List UInt8} (h : RunW c c.length Y) (h0 : c ≠ []) : cmdK c = some Y := by
  rw [h, List.drop_length]
  unfold restK
  rw [if_neg (by intro e; exact h0 (List.eq_nil_of_length_eq_zero e)), moreK]; simp
def RunL (l : List CK) (i : Nat) (X : List UInt8) : Prop := printK l = (printK (l.drop i)).map (X ++ ·)
theorem runL_init (l : List CK) : RunL l 0 [] := by
  unfold RunL
  rw [List.drop_zero]
  cases printK l <;> simp
theorem runL_none {l : List CK} {i : Nat} {X : List UInt8} {c : CK} (h : RunL l i X) (hc : l[i]? = some c) (hn : cmdK c = none) : printK l = none := by
  obtain ⟨hl, he⟩ := List.getElem?_eq_some_iff.1 hc
  rw [h, List.drop_eq_getElem_cons hl, he, printK, hn]; rfl
theorem runL_some {l : List CK} {i : Nat} {X x : List UInt8} {c : CK} (h : RunL l i X) (hc : l[i]? = some c) (hn : cmdK c = some x) : RunL l (i + 1) (X ++ (x ++ [10])) := by
  obtain ⟨hl, he⟩ := List.getElem?_eq_some_iff.1 hc
  unfold RunL at h ⊢
  rw [h, List.drop_eq_getElem_cons hl, he, printK, hn]
  cases printK (l.drop (i + 1)) <;> simp
theorem runL_end {l : List CK} {X : List UInt8} (h : RunL l l.length X) : printK l = some X := by
  rw [h, List.drop_length, printK]; simp
/-- What `Print` tells. -/
def PrEnd (w : World) (l : List CK) (e : Ending) (w' : World) : Prop :=
  Chg [] w w' ∧ ((∃ t, printK l = some t ∧ t.length ≤ 15000000 ∧ e = .returned (.tuple #[.string (bstr t), .int .i64 0])) ∨ (printK l = none ∧ e = .returned (.tuple #[.string (bstr []), .int .i64 2])))
set_option maxRecDepth 100000 in
set_option maxHeartbeats 8000000 in
theorem print_any (w : World) (A : Option Addr) (n c : Nat) (l : List S33) (hn : n = l.length) (hk : k33.C w A n l) (hlen : costL (l.map ckey) ≤ 15000000) :
    Calls Try.prog 17 #[.slice A n c] w (PrEnd w (l.map ckey)) := by
  unfold PrEnd
  obtain ⟨KS, hKS⟩ : ∃ KS, l.map ckey = KS := ⟨_, rfl⟩
  have hKg : ∀ i (h : i < n), KS[i]? = (l[i]?).map ckey := fun i h => by rw [← hKS, List.getElem?_map]
  have hKl : KS.length = n := by rw [← hKS, List.length_map]; exact hn.symm
  rw [hKS] at hlen ⊢
  have hn9 : n ≤ 15000000 := by
    have := sum_len costC (fun a => by unfold costC; omega) KS
    unfold costL at hlen
    omega
  have hB0 := Bd.init w
  obtain ⟨g, hg⟩ : ∃ g, w.heap.size = g := ⟨_, rfl⟩
  rw [hg] at hB0
  replace hKg := Lib.hid hKg
  replace hKl := Lib.hid hKl
  replace hk := Lib.hid hk
  replace hlen := Lib.hid hlen
  replace hB0 := Lib.hid hB0
  replace hn := Lib.hid hn
  clear hKS
  go_enter Try.func17, Try.ntmps17
  go_upto_block 0 with (fail)
  generalize w.alloc (.cells #[.pointer none, .slice none 0 0] 69) = w1 at hB0 ⊢
  replace hg := Lib.hid hg
  go_wp2
  go_loopg [11] n (fun gk v11 wr => ∃ (i : Nat) (X : List UInt8), v11 = .int .i64 i ∧ i ≤ n ∧ gk = n - i ∧ X.length ≤ costL (KS.take i) ∧ Hid (RunL KS i X) ∧ Hid (Bd w wr g X))
  case atStart => exact ⟨0, [], rfl, by omega, by omega, by simp, Lib.hid (runL_init _), hB0⟩
  case round =>
    obtain ⟨i, X, rfl, hi, rfl, hX, hRun, hB⟩ := hrel
    clear hB0
    by_cases hlt : i < n
    · have hil : i < l.length := by have := hn.out; omega
      obtain ⟨ad, A1, c1, rfl, q1, q2, hc1, hk1⟩ := at_T33 hk.out (i : Int) (by omega) (by omega)
      replace q1 := hB.out.C.cell q1 (by simp)
      replace q2 := hB.out.C.cell q2 (by simp)
      have er : rd_T33 l (i : Int) = l[i] := by unfold rd_T33; simp [List.getD, hil]
      rw [er] at q1 q2 hc1 hk1
      clear er
      simp only [Int.toNat_natCast] at q1 q2
      have hCi : Hid (KS[i]? = some (ckey l[i])) := Lib.hid (by rw [hKg.out i hlt, List.getElem?_eq_getElem hil]; rfl)
      generalize l[i] = cm at q1 q2 hc1 hk1 hCi
      obtain ⟨at_, ws⟩ := cm
      simp only at q1 q2 hc1 hk1
      obtain ⟨C, hC⟩ : ∃ C, ckey ⟨at_, ws⟩ = C := ⟨_, rfl⟩
      rw [hC] at hCi
      obtain ⟨m, hm⟩ : ∃ m, ws.length = m := ⟨_, rfl⟩
      have hCg : ∀ j (h : j < m), C[j]? = (ws[j]?).map wkey := fun j h => by rw [← hC]; show (ws.map wkey)[j]? = _; rw [List.getElem?_map]
      have hCl : C.length = m := by rw [← hC, ← hm]; show (ws.map wkey).length = _; rw [List.length_map]
      rw [hm] at q2 hc1 hk1
      have hcost := sum_get costC hCi.out
      have hcost2 := sum_take costC KS (i + 1)
      have hl9 := hlen.out
      unfold costL at hl9 hX
      have hcC : costC C = (C.map costW).sum + 1 := rfl
      have hm9 : m ≤ 15000000 := by
        have := sum_len costW (fun a => by unfold costW; omega) C
        omega
      have hXC : X.length + (C.map costW).sum + 1 ≤ 15000000 := by omega
      have hX2 : Hid (X.length + (C.map costW).sum + 1 ≤ costL (KS.take (i + 1))) := Lib.hid (by unfold costL; omega)
      clear hcost hcost2 hl9 hcC hX
      replace hm := Lib.hid hm
      replace hC := Lib.hid hC
      replace hCg := Lib.hid hCg
      replace hCl := Lib.hid hCl
      have hA := (Chg.refl [] wr).alloc (.cells #[.int .i64 at_, .slice A1 m c1] 33)
      replace hk1 := Lib.hid hk1
      have hB6 := Lib.hid (hB.out.chg hA)
      clear hA hB
      by_cases hm0 : m = 0
      · subst hm0
        have hcn : cmdK C = none := by
          have : C = [] := List.eq_nil_of_length_eq_zero hCl.out
          rw [this]; rfl
        have hpn := Lib.hid (runL_none hRun.out hCi.out hcn)
        have hCw := Lib.hid hB6.out.C
        clear hcn hB6
        go_wp2_with fail
        (try rw [Exit.noGoto_ret])
        go_ret2
        exact ⟨hCw.out, .inr ⟨hpn.out, rfl⟩⟩
      · have em : ((m : Int) == 0) = false := by rw [beq_eq_false_iff_ne]; omega
        go_upto_block 2 with (fail)
        generalize wr.alloc (.cells #[.int .i64 at_, .slice A1 m c1] 33) = w6 at hB6 ⊢
        clear q1 q2
        go_cut [] (fun wx => ∃ Y, Hid (cmdK C = some Y) ∧ Y.length ≤ (C.map costW).sum ∧ Hid (Bd w wx g (X ++ Y)))
        case first =>
          go_wp2
          go_loopg [22] m (fun gk v22 wx => ∃ (j : Nat) (Y : List UInt8), v22 = .int .i64 j ∧ j ≤ m ∧ gk = m - j ∧ Y.length ≤ ((C.take j).map costW).sum ∧ Hid (RunW C j Y) ∧ Hid (Bd w wx g (X ++ Y)))
          case atStart => exact ⟨0, [], rfl, by omega, by omega, by simp, Lib.hid (runW_init _), Lib.hid (by rw [List.append_nil]; exact hB6.out)⟩
          case round =>
            clear hB6
            obtain ⟨j, Y, rfl, hj, rfl, hY, hRw, hBx⟩ := hrel
            by_cases hlt2 : j < m
            · have hjl : j < ws.length := by have := hm.out; omega
              obtain ⟨ad2, A2, c2, rfl, z0, z1, z2, hc2, hk2⟩ := at_T38 hk1.out (j : Int) (by omega) (by omega)
              replace z0 := hBx.out.C.cell z0 (by simp)
              replace z1 := hBx.out.C.cell z1 (by simp)
              replace z2 := hBx.out.C.cell z2 (by simp)
              have er : rd_T38 ws (j : Int) = ws[j] := by unfold rd_T38; simp [List.getD, hjl]
              rw [er] at z0 z1 z2 hc2 hk2
              clear er
              simp only [Int.toNat_natCast] at z0 z1 z2
              have hWi : Hid (C[j]? = some (wkey ws[j])) := Lib.hid (by rw [hCg.out j hlt2, List.getElem?_eq_getElem hjl]; rfl)
              generalize ws[j] = wd at z0 z1 z2 hc2 hk2 hWi
              obtain ⟨wat, kd, ps⟩ := wd
              simp only at z0 z1 z2 hc2 hk2
              obtain ⟨K, hK⟩ : ∃ K, ps.map pkey = K := ⟨_, rfl⟩
              have hWi2 : wkey ⟨wat, kd, ps⟩ = (kd, K) := by rw [← hK]; rfl
              rw [hWi2] at hWi
              have hc9 := sum_get costW hWi.out
              have hc8 := sum_take costW C (j + 1)
              have hcw : costW (kd, K) = costK K + 4 := rfl
              obtain ⟨q, hq⟩ : ∃ q, ps.length = q := ⟨_, rfl⟩
              rw [hq] at z2 hc2 hk2
              replace hq := Lib.hid hq.symm
              have hWk := Lib.hid hK
              replace hk2 := Lib.hid hk2
              clear hWi2 hK hc2
              have hA := (Chg.refl [] wr).alloc (.cells #[.int .i64 wat, .int .i64 kd, .slice A2 q c2] 38)
              have hB8 := Lib.hid (hBx.out.chg hA)
              have hP8 := Lib.hid (blk_new wr (.cells #[.int .i64 wat, .int .i64 kd, .slice A2 q c2] 38))
              have hgk8 : g < wr.heap.size := by obtain ⟨p, v, _, h⟩ := hBx.out; exact lt_heap h.H
              obtain ⟨k8, hk8⟩ : ∃ k8, wr.heap.size = k8 := ⟨_, rfl⟩
              rw [hk8] at hP8 hgk8
              clear hA hBx
              go_upto_region 10 with fail
              generalize wr.alloc (.cells #[.int .i64 wat, .int .i64 kd, .slice A2 q c2] 38) = w8 at hB8 hP8 ⊢
              clear hk8 z0 z1 z2
              by_cases hj0 : j = 0
              · subst hj0
                have hBs : Hid (Bd w w8 g (X ++ Y ++ [])) := Lib.hid (by rw [List.append_nil]; exact hB8.out)
                have hPs := hP8
                clear hB8 hP8
                generalize w8 = w9 at hBs hPs ⊢
                have hW9 : Hid (Bd w w9 g (X ++ Y ++ [])) := hBs
                obtain ⟨y0, y1, y2⟩ : w9.cell? ⟨k8, 0, none⟩ = some (.int .i64 wat) ∧ w9.cell? ⟨k8, 1, none⟩ = some (.int .i64 kd) ∧ w9.cell? ⟨k8, 2, none⟩ = some (.slice A2 q c2) := by have := hPs.out; refine ⟨?_, ?_, ?_⟩ <;> simp [World.cell?, this]
                have hcall := Lib.hid (wordp_any w w9 g (X ++ Y ++ []) wat kd A2 q c2 ps hq.out hk2.out hW9.out (by rw [hWk.out, List.length_append, List.length_append]; simp; omega))
                rw [hWk.out] at hcall
                unfold WpEnd at hcall
                go_wp2_with fail
                refine (hcall.out).mono ?_
                rintro e w10 ⟨b, rfl, hC10, -, hn10, hs10⟩
                clear hcall
                cases hwv : wordK (kd, K) with
                | none =>
                  obtain rfl : b = false := hn10 hwv
                  have hpn := Lib.hid (runL_none hRun.out hCi.out (runW_none hRw.out hWi.out hwv))
                  replace hC10 := Lib.hid hC10
                  clear hn10 hs10 hwv hBs hPs hW9
                  go_wp2_with fail
                  (try rw [Exit.noGoto_ret])
                  go_ret2
                  exact ⟨hC10.out, .inr ⟨hpn.out, rfl⟩⟩
                | some x =>
                  obtain ⟨rfl, hB10⟩ := hs10 x hwv
                  have hxl := word_len hwv
                  have hr2 := Lib.hid (runW_some hRw.out hWi.out hwv)
                  rw [if_pos rfl] at hr2
                  have hB11 : Hid (Bd w w10 g (X ++ (Y ++ ([] ++ x)))) := Lib.hid (by simp only [List.append_assoc] at hB10 ⊢; exact hB10)
                  have hyl : (Y ++ ([] ++ x)).length ≤ ((C.take (0 + 1)).map costW).sum := by
                    have : costW (kd, K) = costK K + 4 := rfl
                    simp only [List.length_append, List.length_cons, List.length_nil] at hxl ⊢; omega
                  clear hn10 hs10 hwv hB10 hxl hC10 hBs hPs hW9
                  go_wp2_with fail
                  go_roundg (m - (0 + 1))
                  case measure => omega
                  case rel => exact ⟨0 + 1, _, by go_num, by omega, rfl, hyl, hr2, hB11⟩
              · have e0 : decide ((j : Int) > 0) = true := by simp; omega
                have e0n : decide (0 < j) = true := by simp; omega
                have hwb := Lib.hid (writeByte_bd w w8 g (X ++ Y) 32 hB8.out (by rw [List.length_append]; omega))
                go_wp2_with fail
                refine (hwb.out).mono ?_
                rintro e w9 ⟨rfl, hB9, hK9⟩
                have hBs := Lib.hid hB9
                have hPs := Lib.hid (hK9.2 _ _ hP8.out (by omega) (by intro cs f h; cases h))
                clear hwb hB9 hK9 hB8 hP8
                have hW9 : Hid (Bd w w9 g (X ++ Y ++ [32])) := hBs
                obtain ⟨y0, y1, y2⟩ : w9.cell? ⟨k8, 0, none⟩ = some (.int .i64 wat) ∧ w9.cell? ⟨k8, 1, none⟩ = some (.int .i64 kd) ∧ w9.cell? ⟨k8, 2, none⟩ = some (.slice A2 q c2) := by have := hPs.out; refine ⟨?_, ?_, ?_⟩ <;> simp [World.cell?, this]
                have hcall := Lib.hid (wordp_any w w9 g (X ++ Y ++ [32]) wat kd A2 q c2 ps hq.out hk2.out hW9.out (by rw [hWk.out, List.length_append, List.length_append]; simp; omega))
                rw [hWk.out] at hcall
                unfold WpEnd at hcall
                go_wp2_with fail
                refine (hcall.out).mono ?_
                rintro e w10 ⟨b, rfl, hC10, -, hn10, hs10⟩
                clear hcall
                cases hwv : wordK (kd, K) with
                | none =>
                  obtain rfl : b = false := hn10 hwv
                  have hpn := Lib.hid (runL_none hRun.out hCi.out (runW_none hRw.out hWi.out hwv))
                  replace hC10 := Lib.hid hC10
                  clear hn10 hs10 hwv hBs hPs hW9
                  go_wp2_with fail
                  (try rw [Exit.noGoto_ret])
                  go_ret2
                  exact ⟨hC10.out, .inr ⟨hpn.out, rfl⟩⟩
                | some x =>
                  obtain ⟨rfl, hB10⟩ := hs10 x hwv
                  have hxl := word_len hwv
                  have hr2 := Lib.hid (runW_some hRw.out hWi.out hwv)
                  rw [if_neg (by omega)] at hr2
                  have hB11 : Hid (Bd w w10 g (X ++ (Y ++ ([32] ++ x)))) := Lib.hid (by simp only [List.append_assoc] at hB10 ⊢; exact hB10)
                  have hyl : (Y ++ ([32] ++ x)).length ≤ ((C.take (j + 1)).map costW).sum := by
                    have : costW (kd, K) = costK K + 4 := rfl
                    simp only [List.length_append, List.length_cons, List.length_nil] at hxl ⊢; omega
                  clear hn10 hs10 hwv hB10 hxl hC10 hBs hPs hW9
                  go_wp2_with fail
                  go_roundg (m - (j + 1))
                  case measure => omega
                  case rel => exact ⟨j + 1, _, by go_num, by omega, rfl, hyl, hr2, hB11⟩
            · obtain rfl : j = m := by omega
              have hcne : C ≠ [] := fun h => hm0 (by rw [← hCl.out, h]; rfl)
              have hY2 := Lib.hid (runW_end (by rw [hCl.out]; exact hRw.out) hcne)
              have hYl2 : Y.length ≤ (C.map costW).sum := Nat.le_trans hY (sum_take costW C j)
              clear hcne
              go_wp2_with fail
              go_meet
              exact ⟨Y, hY2, hYl2, hBx⟩
        case rest =>
        obtain ⟨Y, hY, hYl, hB7⟩ := hcut
        clear hB6
        have hwb := Lib.hid (writeByte_bd w wc g (X ++ Y) 10 hB7.out (by rw [List.length_append]; omega))
        have hrel : Hid (∀ wx, Bd w wx g (X ++ Y ++ [10]) → ∃ (i' : Nat) (X' : List UInt8), ((i : Int) + 1) = (i' : Int) ∧ i' ≤ n ∧ n - (i + 1) = n - i' ∧ X'.length ≤ costL (KS.take i') ∧ Hid (RunL KS i' X') ∧ Hid (Bd w wx g X')) := Lib.hid (fun wx hb => ⟨i + 1, X ++ (Y ++ [10]), by omega, by omega, rfl, by
          have := hX2.out
          rw [List.length_append, List.length_append]; simp; omega, Lib.hid (runL_some hRun.out hCi.out hY.out), Lib.hid (by rw [← List.append_assoc]; exact hb)⟩)
        go_wp2_with fail
        refine (hwb.out).mono ?_
        rintro e w8 ⟨rfl, hB8, -⟩
        have hfin := Lib.hid (hrel.out _ hB8)
        clear hB8 hwb hrel hB7
        go_wp2_with fail
        go_roundg (n - (i + 1))
        case measure => omega
        case rel =>
          obtain ⟨i', X', h1, h2⟩ := hfin.out
          exact ⟨i', X', by rw [← h1], h2⟩
    · obtain rfl : i = n := by omega
      have hp := Lib.hid (runL_end (by rw [hKl.out]; exact hRun.out))
      have hXl : X.length ≤ 15000000 := by
        have h1 := sum_take costC KS i
        have h2 := hlen.out
        unfold costL at hX h2
        omega
      have hle := Lib.hid (len_bd w wr g X hB.out)
      have hse := Lib.hid (string_bd w wr g X hB.out)
      have hd : decide ((X.length : Int) > 16777216) = false := by simp; omega
      go_wp2_with fail
      refine (hle.out).mono ?_
      rintro e w8 ⟨rfl, h8⟩
      rw [h8]
      clear h8 hle
      go_wp2_with fail
      refine (hse.out).mono ?_
      rintro e w9 ⟨rfl, hC9⟩
      replace hC9 := Lib.hid hC9
      clear hse hB
      go_wp2_with fail
      go_ret2
      exact ⟨hC9.out, .inl ⟨X, hp.out, hXl, rfl⟩⟩
end Go.Proofs.Yteodhnblbehenaa
namespace Go.Proofs.Yteodhnblbehenaa
open Go.ChangeShapes Go.WideShapes Go.Deep
mutual
def bulkD : Dt → Nat
  | .int _ => 1
  | .bool _ => 1
  | .str s => s.size + 1
  | .sl rows => bulkRs rows + 1
def bulkRs : List (List Dt) → Nat
  | [] => 0
  | r :: rs => bulkR r + bulkRs rs
def bulkR : List Dt → Nat
  | [] => 0
  | d :: r => bulkD d + bulkR r
end
section
variable {H : Type} {enc : TypeId × Value → H} {P : Program} {w : World} {base : Nat} {spare : Nat → Bool} {held : Bool}
theorem rows_bulk (D : Nat → DataW H) : ∀ (R : List (List Dt)) (k : Nat), (∀ i r, R[i]? = some r → bulkR r ≤ Rows.uptoBulk (D (k + i))) → bulkRs R ≤ Rows.uptoBulkAll ((List.range' k R.length).map D) := by
  intro R
  induction R with
  | nil => intro k _; simp [bulkRs]
  | cons r R ih =>
    intro k h
    have h0 := h 0 r rfl
    have h1 := ih (k + 1) (fun i r hr => by rw [show k + 1 + i = k + (i + 1) by omega]; exact h (i + 1) r hr)
    rw [List.length_cons, List.range'_succ, List.map_cons]
    simp only [bulkRs, Rows.uptoBulkAll]
    rw [Nat.add_zero] at h0
    omega
theorem row_bulk : ∀ (row : List Dt) (xs : List (DataW H)), row.length = xs.length → (∀ (j : Nat) (d : Dt), row[j]? = some d → ∃ z : DataW H, xs[j]? = some z ∧ bulkD d ≤ Rows.uptoBulk z) → bulkR row ≤ Rows.uptoBulkAll xs := by
  intro row
  induction row with
  | nil => intro xs _ _; simp [bulkR]
  | cons d row ih =>
    intro xs hl h
    cases xs with
    | nil => simp at hl
    | cons z xs =>
      obtain ⟨z', hz', hb⟩ := h 0 d rfl
      simp at hz'; subst hz'
      have := ih xs (by simpa using hl) (fun j e he => h (j + 1) e he)
      simp only [bulkR, Rows.uptoBulkAll]
      omega
theorem readsB_of_trod : ∀ (n : Nat) (t : TypeId) (sh : Sh) (fuel : Nat) (v : Value) (x : DataW H × List MemPlace), shOf P n t = some sh → DataW.trod enc P w base spare held fuel t [v] = some x → ∃ d, Reads w sh v d ∧ bulkD d ≤ Rows.uptoBulk x.1 := by
  intro n
  induction n with
  | zero => intro t sh fuel v x h; simp [shOf] at h
  | succ n ih =>
    intro t sh fuel v x hsh hx
    unfold shOf at hsh
    split at hsh
    · rename_i k hk
      simp at hsh; subst hsh
      obtain ⟨m, hm, hxe, hw⟩ := DataW.trod_int hk hx
      simp at hm; subst hm; subst hxe
      exact ⟨_, .int hw, Nat.le_refl _⟩
    · rename_i hk
      simp at hsh; subst hsh
      obtain ⟨b, hb, hxe⟩ := DataW.trod_bool hk hx
      simp at hb; subst hb; subst hxe
      exact ⟨_, .bool, Nat.le_refl _⟩
    · rename_i hk
      simp at hsh; subst hsh
      obtain ⟨s, hs, hxe, hm⟩ := DataW.trod_string hk hx
      simp at hs; subst hs; subst hxe
      exact ⟨_, .str hm, by simp only [bulkD, Rows.uptoBulk, Array.length_toList]; exact Nat.le_refl _⟩
    · rename_i e hk
      rcases open_slice hk hx with ⟨hcs, hxe⟩ | ⟨a, len, cap, m, fu, D, Pl, hcs, _, hl, hm, hmm, hxe, hi⟩
      · -- nil
        simp at hcs; subst hcs
        have : ∃ fs, sh = .sl fs := by
          split at hsh
          · split at hsh
            · obtain ⟨fs, _, e⟩ := Option.map_eq_some_iff.1 hsh; exact ⟨fs, e.symm⟩
            · cases hsh
          · split at hsh
            · obtain ⟨s, _, e⟩ := Option.map_eq_some_iff.1 hsh; exact ⟨[s], e.symm⟩
            · cases hsh
        obtain ⟨fs, rfl⟩ := this
        exact ⟨.sl [], .sl (fun _ _ => default) (fun _ => rfl) (Nat.le_refl _) (Nat.zero_le _) rfl (by simp) (by simp) (by simp), by subst hxe; simp [bulkD, bulkRs, Rows.uptoBulk]⟩
      · simp at hcs; subst hcs
        have hlm : len ≤ m := by rw [hmm]; split <;> omega
        -- each element's cells, and what each reads as
        have key : ∀ (fs : List Sh) (q : Nat), sh = .sl fs → P.cellsOf e = q → q = fs.length →
            (∀ (cs : List Value) (y : DataW H × List MemPlace) (fu : Nat), cs.length = q → DataW.trod enc P w base spare held fu e cs = some y → ∃ row : List Dt, row.length = fs.length ∧ bulkR row ≤ Rows.uptoBulk y.1 ∧ ∀ (j : Nat) (s : Sh) (u : Value), fs[j]? = some s → cs[j]? = some u → ∃ d, row[j]? = some d ∧ Reads w s u d) → ∃ d, Reads w sh (.slice (some a) len cap) d ∧ bulkD d ≤ Rows.uptoBulk x.1 := by
          intro fs q hs hq hqf hel
          subst hs hqf
          have hrow : ∀ i, i < len → ∃ row : List (Value × Dt), (row.length = fs.length ∧ bulkR (row.map (·.2)) ≤ Rows.uptoBulk (D i)) ∧ ∀ (j : Nat) (p : Value × Dt), row[j]? = some p → w.cell? (a.add (i * fs.length + j)) = some p.1 ∧ ∀ s, fs[j]? = some s → Reads w s p.1 p.2 := by
            intro i hi1
            obtain ⟨cs', hcells, ht⟩ := hi i (by omega)
            rw [hq] at hcells
            obtain ⟨_, hcl, hat⟩ := World.cells?_some hcells
            obtain ⟨row0, r1, r2, r3⟩ := hel cs' _ fu hcl ht
            refine ⟨cs'.zip row0, ⟨by rw [List.length_zip, hcl, r1, Nat.min_self], ?_⟩, fun j p hp => ?_⟩
            · rw [List.map_snd_zip (by omega)]; exact r2
            · obtain ⟨hp1, hp2⟩ := List.getElem?_zip_eq_some.1 hp
              have hj : j < fs.length := by have := (List.getElem?_eq_some_iff.1 hp1).1; omega
              refine ⟨?_, fun s hs => ?_⟩
              · have hc := hat j (by omega)
                rw [Go.Deep.add_add, ← hq, hq] at hc
                rw [hc]; exact hp1
              · obtain ⟨d, hd1, hd2⟩ := r3 j s p.1 hs hp1
                rw [hp2] at hd1; cases hd1; exact hd2
          obtain ⟨R, hR, hRp⟩ := exists_rows len _ hrow
          refine ⟨.sl (R.map fun row => row.map (·.2)), .sl (fun i j => ((R.getD i []).getD j (default, .bool false)).1) (by simp) hl hm (by simp [hR]) (fun i hi1 => ?_) (fun i j hi1 hj => ?_) (fun i j row s d h1 h2 h3 => ?_), ?_⟩
          · have hRi : R[i]? = some (R[i]'(by omega)) := List.getElem?_eq_getElem (by omega)
            refine ⟨_, by simp [hRi]; rfl, ?_⟩
            simp [(hRp i _ hRi).1.1]
          · have hRi : R[i]? = some (R[i]'(by omega)) := List.getElem?_eq_getElem (by omega)
            obtain ⟨⟨hl1, -⟩, hp⟩ := hRp i _ hRi
            have hj' : (R[i]'(by omega))[j]? = some ((R[i]'(by omega))[j]'(by omega)) := List.getElem?_eq_getElem (by omega)
            refine ⟨a, rfl, ?_⟩
            rw [(hp j _ hj').1]
            simp [List.getD, hRi, hj']
          · rw [List.getElem?_map] at h1
            obtain ⟨r, hr, rfl⟩ := Option.map_eq_some_iff.1 h1
            rw [List.getElem?_map] at h3
            obtain ⟨p, hp, rfl⟩ := Option.map_eq_some_iff.1 h3
            have := ((hRp i r hr).2 j p hp).2 s h2
            simpa [List.getD, hr, hp] using this
          · rw [hxe]
            simp only [bulkD, Rows.uptoBulk]
            have := rows_bulk (H := H) D (R.map fun row => row.map (·.2)) 0 (fun i r hr => by
              rw [List.getElem?_map] at hr
              obtain ⟨r0, hr0, rfl⟩ := Option.map_eq_some_iff.1 hr
              rw [Nat.zero_add]
              exact (hRp i r0 hr0).1.2)
            rw [List.length_map, hR, ← List.range_eq_range'] at this
            omega
        split at hsh
        · rename_i fs hfs
          split at hsh
          · rename_i hflat
            simp only [Bool.and_eq_true, beq_iff_eq] at hflat
            obtain ⟨shs, hmap, e1⟩ := Option.map_eq_some_iff.1 hsh
            obtain ⟨hlen, hget⟩ := mapM_some _ _ _ hmap
            refine key shs fs.size e1.symm hflat.2 (by simp [hlen]) ?_
            intro cs y fu' hcl ht
            obtain ⟨xs, n', _, hye, _, hxl, hf⟩ := DataW.trod_struct hfs ht
            obtain ⟨row, h1, h2⟩ := exists_rows fs.size (fun j (d : Dt) => (∃ z : DataW H × List MemPlace, xs[j]? = some z ∧ bulkD d ≤ Rows.uptoBulk z.1) ∧ ∀ (s : Sh) (u : Value), shs[j]? = some s → cs[j]? = some u → Reads w s u d) (fun j hj => by
              have hfj : fs[j]? = some fs[j] := Array.getElem?_eq_getElem hj
              have hfl : fs.toList[j]? = some fs[j] := by simp [hfj]
              obtain ⟨s', hs', hsh'⟩ := hget j _ hfl
              have hfo : fs[j].offset = j ∧ P.cellsOf fs[j].type = 1 := by
                have := List.all_eq_true.1 hflat.1 j (by simpa using hj)
                rw [hfl] at this
                simpa using this
              have h1 := hf j _ hfj
              rw [hfo.1, hfo.2] at h1
              have hjc : j < cs.length := by rw [hcl]; exact hj
              have hone : (cs.drop j).take 1 = [cs[j]] := by
                rw [List.drop_eq_getElem_cons hjc]; rfl
              rw [hone] at h1
              have hx1 : xs[j]? = some (xs[j]'(by omega)) := List.getElem?_eq_getElem (by omega)
              rw [hx1] at h1
              obtain ⟨d, hd1, hd2⟩ := ih _ _ _ _ _ hsh' h1
              refine ⟨d, ⟨_, hx1, hd2⟩, fun s u hs hu => ?_⟩
              rw [hs'] at hs; cases hs
              rw [List.getElem?_eq_getElem hjc] at hu; cases hu
              exact hd1)
            refine ⟨row, by rw [h1, hlen, Array.length_toList], ?_, fun j s u hs hu => ?_⟩
            · rw [hye]
              simp only [Rows.uptoBulk]
              have := row_bulk (H := H) row (xs.map (·.1)) (by rw [List.length_map, h1, hxl]) (fun j d hd => by
                obtain ⟨⟨z, hz, hb⟩, -⟩ := h2 j d hd
                exact ⟨z.1, by rw [List.getElem?_map, hz]; rfl, hb⟩)
              omega
            · have hj : j < row.length := by
                have := (List.getElem?_eq_some_iff.1 hu).1; rw [hcl] at this; omega
              exact ⟨_, List.getElem?_eq_getElem hj, (h2 j _ (List.getElem?_eq_getElem hj)).2 s u hs hu⟩
          · cases hsh
        · split at hsh
          · rename_i h1c
            simp only [beq_iff_eq] at h1c
            obtain ⟨s0, hs0, e1⟩ := Option.map_eq_some_iff.1 hsh
            refine key [s0] 1 e1.symm h1c rfl ?_
            intro cs y fu' hcl ht
            match cs, hcl with
            | [c0], _ =>
              obtain ⟨d, hd1, hd2⟩ := ih _ _ _ _ _ hs0 ht
              refine ⟨[d], rfl, by simpa [bulkR] using hd2, fun j s u hs hu => ?_⟩
              have hj : j = 0 := by
                have := (List.getElem?_eq_some_iff.1 hu).1; simpa using this
              subst hj
              simp at hs hu; subst hs hu
              exact ⟨d, rfl, hd1⟩
          · cases hsh
    · cases hsh
end
end Go.Proofs.Yteodhnblbehenaa
namespace Go.Proofs.Yteodhnblbehenaa
open Go.RowKit Tcl PTclParses YteodhnblbehenaaW.PrintWords
theorem rows_sum {α : Type} (cost : α → Nat) : ∀ (ys : List α) (rows : List (List Dt)), ys.length = rows.length → (∀ (i : Nat) (y : α) (row : List Dt), ys[i]? = some y → rows[i]? = some row → cost y ≤ 4 * bulkR row) → (ys.map cost).sum ≤ 4 * bulkRs rows := by
  intro ys
  induction ys with
  | nil => intro rows _ _; simp
  | cons y ys ih =>
    intro rows hl h
    cases rows with
    | nil => simp at hl
    | cons r rows =>
      have h0 := h 0 y r rfl rfl
      have := ih rows (by simpa using hl) (fun i y row h1 h2 => h (i + 1) y row h1 h2)
      simp only [List.map_cons, List.sum_cons, bulkRs]; omega
theorem kd_of_reads {α : Type} {d : Kd α} {w : World} {fs : List Sh} (hsz : d.sz = fs.length) (hf : 0 < fs.length) (cost : α → Nat)
    (key : ∀ (row : List Dt) (us : Nat → Value), row.length = fs.length → (∀ j s x, fs[j]? = some s → row[j]? = some x → Reads w s (us j) x) → ∃ y, d.K w y ((List.range fs.length).map us) ∧ cost y ≤ 4 * bulkR row)
    {v : Value} {dt : Dt} (h : Reads w (.sl fs) v dt) : ∃ A c ys, v = .slice A (List.length ys) c ∧ List.length ys ≤ c ∧ c ≤ maxLen ∧ d.C w A ys.length ys ∧ (ys.map cost).sum + 4 ≤ 4 * bulkD dt := by
  cases h with
  | @sl fs A n c rows u h0 h1 h2 hl hw hc hr =>
    obtain ⟨ys, hy1, hy2⟩ := exists_rows n (fun i (y : α) => d.K w y ((List.range fs.length).map (u i)) ∧ ∀ row, rows[i]? = some row → cost y ≤ 4 * bulkR row) (fun i hi => by
      obtain ⟨row, hr1, hr2⟩ := hw i hi
      obtain ⟨y, k1, k2⟩ := key row (u i) hr2 (fun j s x h1 h2 => hr i j row s x hr1 h1 h2)
      exact ⟨y, k1, fun row' h' => by rw [hr1] at h'; cases h'; exact k2⟩)
    subst hy1
    refine ⟨A, c, ys, rfl, h1, h2, ⟨rfl, by unfold maxLen at h2; omega, fun hn => ?_⟩, ?_⟩
    · obtain ⟨a, ha, -⟩ := hc 0 0 hn hf
      refine ⟨a, ha, fun j y hj => ?_⟩
      refine ⟨_, by rw [List.length_map, List.length_range, hsz], (hy2 j y hj).1, fun i x hx => ?_⟩
      have hjl : j < ys.length := (List.getElem?_eq_some_iff.1 hj).1
      have hil : i < fs.length := by have := (List.getElem?_eq_some_iff.1 hx).1; simpa using this
      obtain ⟨a', ha', hcell⟩ := hc j i hjl hil
      rw [ha] at ha'; cases ha'
      rw [hsz, hcell]
      rw [List.getElem?_map, List.getElem?_range hil] at hx
      exact hx
    · have := rows_sum cost ys rows (by omega) (fun i y row hi hrow => (hy2 i y hi).2 row hrow)
      simp only [bulkD]; omega
def costp (p : S41) : Nat := 4 * (pkey p).2.length + 1
def costw (x : S38) : Nat := (x.f2.map costp).sum + 4
def costc (x : S33) : Nat := (x.f1.map costw).sum + 1
theorem costw_eq (x : S38) : costW (wkey x) = costw x := by
  unfold costW costw costK wkey
  rw [List.map_map]; rfl
theorem costc_eq (x : S33) : costC (ckey x) = costc x := by
  unfold costC costc ckey
  rw [List.map_map]
  congr 2
  exact List.map_congr_left fun y _ => costw_eq y
theorem costl_eq (l : List S33) : costL (l.map ckey) = (l.map costc).sum := by
  unfold costL
  rw [List.map_map]
  congr 1
  exact List.map_congr_left fun y _ => costc_eq y
theorem parts_of_reads {w : World} {v : Value} {dt : Dt} (h : Reads w (.sl [.bool, .str]) v dt) : ∃ A c ys, v = .slice A (List.length ys) c ∧ List.length ys ≤ c ∧ c ≤ maxLen ∧ k41.C w A ys.length ys ∧ (ys.map costp).sum + 4 ≤ 4 * bulkD dt :=
  kd_of_reads (d := k41) rfl (by decide) costp (fun row us hl hr => by
    match row, hl with
    | [d0, d1], _ =>
      have r0 := hr 0 _ _ rfl rfl
      have r1 := hr 1 _ _ rfl rfl
      obtain ⟨b, e0⟩ : ∃ b, us 0 = .bool b := by cases h0 : us 0 <;> rw [h0] at r0 <;> cases r0; exact ⟨_, rfl⟩
      obtain ⟨s, e1, e2⟩ : ∃ s, us 1 = .string s ∧ d1 = .str s := by
        generalize us 1 = z at r1
        cases r1
        exact ⟨_, rfl, rfl⟩
      refine ⟨⟨b, s⟩, ?_, ?_⟩
      · show k41.K w _ [us 0, us 1]
        rw [e0, e1]; exact k41_mk w ⟨b, s⟩
      · subst e2
        have : (pkey ⟨b, s⟩).2.length = s.size := by show s.data.toList.length = _; rw [Array.length_toList]; rfl
        unfold costp
        rw [this]
        simp only [bulkR, bulkD]; omega) h
theorem words_of_reads {w : World} {v : Value} {dt : Dt} (h : Reads w (.sl [.int .i64, .int .i64, .sl [.bool, .str]]) v dt) : ∃ A c ys, v = .slice A (List.length ys) c ∧ List.length ys ≤ c ∧ c ≤ maxLen ∧ k38.C w A ys.length ys ∧ (ys.map costw).sum + 4 ≤ 4 * bulkD dt :=
  kd_of_reads (d := k38) rfl (by decide) costw (fun row us hl hr => by
    match row, hl with
    | [d0, d1, d2], _ =>
      obtain ⟨n0, e0, -⟩ := i64_of_reads (hr 0 _ _ rfl rfl)
      obtain ⟨n1, e1, -⟩ := i64_of_reads (hr 1 _ _ rfl rfl)
      obtain ⟨A, c, ps, e2, hc1, -, hk, hcost⟩ := parts_of_reads (hr 2 _ _ rfl rfl)
      refine ⟨⟨n0, n1, ps⟩, ?_, ?_⟩
      · show k38.K w _ [us 0, us 1, us 2]
        rw [e0, e1, e2]; exact k38_mk w ⟨n0, n1, ps⟩ hc1 hk
      · unfold costw
        simp only [bulkR]; omega) h
theorem cmds_of_reads {w : World} {v : Value} {dt : Dt} (h : Reads w (.sl [.int .i64, .sl [.int .i64, .int .i64, .sl [.bool, .str]]]) v dt) : ∃ A c ys, v = .slice A (List.length ys) c ∧ List.length ys ≤ c ∧ c ≤ maxLen ∧ k33.C w A ys.length ys ∧ costL (ys.map ckey) + 4 ≤ 4 * bulkD dt := by
  obtain ⟨A, c, ys, h1, h2, h3, h4, h5⟩ := kd_of_reads (d := k33) (fs := [.int .i64, .sl [.int .i64, .int .i64, .sl [.bool, .str]]]) rfl (by decide) costc (fun row us hl hr => by
    match row, hl with
    | [d0, d1], _ =>
      obtain ⟨n0, e0, -⟩ := i64_of_reads (hr 0 _ _ rfl rfl)
      obtain ⟨A, c, ws, e1, hc1, -, hk, hcost⟩ := words_of_reads (hr 1 _ _ rfl rfl)
      refine ⟨⟨n0, ws⟩, ?_, ?_⟩
      · show k33.K w _ [us 0, us 1]
        rw [e0, e1]; exact k33_mk w ⟨n0, ws⟩ hc1 hk
      · unfold costc
        simp only [bulkR]; omega) h
  exact ⟨A, c, ys, h1, h2, h3, h4, by rw [costl_eq]; exact h5⟩
end Go.Proofs.Yteodhnblbehenaa
namespace Go.Proofs.Yteodhnblbehenaa
open Go.RowKit Tcl PTclParses YteodhnblbehenaaW.PrintWords
theorem ckey_kcmd (c : Cmd) : ckey (kcmd c) = ckeyP c := by
  unfold ckey kcmd ckeyP
  rw [List.map_map]
  refine List.map_congr_left fun w _ => ?_
  simp only [Function.comp, wkey, kword, wkeyP]
  rw [List.map_map]
  congr 1
theorem ckeys_kcmd (cs : List Cmd) : (cs.map kcmd).map ckey = cs.map ckeyP := by
  rw [List.map_map]
  exact List.map_congr_left fun c _ => ckey_kcmd c
theorem parse_err_ne {w : World} {s : List UInt8} {e : Ending} {w' : World} {p q : Nat} (h : PaRes w s e w') (hp : parse s = .error (p, q)) : q ≠ 0 := by
  obtain ⟨hC, h | h⟩ := h
  · obtain ⟨A, n, c, xs, cs', rfl, h1, -⟩ := h
    rw [hp] at h1; cases h1
  · obtain ⟨p, q, rfl, h1, h2⟩ := h
    rw [hp] at h1; cases h1
    exact h2
theorem cost_parsed (cs : List Cmd) : costL (cs.map ckeyP) = (cs.map c5).sum := by
  unfold costL
  rw [List.map_map]
  congr 1
  refine List.map_congr_left fun c _ => ?_
  simp only [Function.comp, costC, ckeyP, c5]
  rw [List.map_map]
  rfl
set_option maxRecDepth 100000 in
set_option maxHeartbeats 16000000 in
theorem tclBack_walk (w : World) (A : Option Addr) (c : Nat) (l : List S33) (hlc : l.length ≤ c) (hk : k33.C w A l.length l) (hcost : costL (l.map ckey) ≤ 15000000) (s : ByteArray) (hs : s.size ≤ maxLen) :
    Calls Try.prog 7 #[.slice A l.length c, .string s] w fun e w' => e = .returned (.bool true) ∧ Below w.heap.size w w' := by
  unfold maxLen at hs
  have hfine := kd_fine hk
  obtain ⟨n, hn⟩ : ∃ n, l.length = n := ⟨_, rfl⟩
  rw [hn] at hk hlc ⊢
  have hgr := Lib.hid (fun W (hC : Chg [] w W) => great_any W A n c l hn.symm (by rw [← hn]; exact hfine.1) (Kd.C_below hk hC.below) hfine.2)
  have hprt := Lib.hid (fun W (hC : Chg [] w W) => print_any W A n c l hn.symm (Kd.C_below hk hC.below) hcost)
  unfold PrEnd at hprt
  replace hk := Lib.hid hk
  replace hn := Lib.hid hn
  clear hfine hcost
  go_enter Try.func7, Try.ntmps7
  go_wp2_with fail
  refine (alive_any _).mono ?_
  rintro e w1 ⟨rfl, hC⟩
  replace hC := Lib.hid hC
  go_wp2_with fail
  refine (hgr.out w1 hC.out).mono ?_
  rintro e w2 ⟨⟨b, rfl⟩, hC1⟩
  replace hC := Lib.hid (hC.out.trans hC1)
  clear hC1 hgr
  cases b with
  | true =>
    go_wp2_with fail
    refine (alive_any _).mono ?_
    rintro e w3 ⟨rfl, hC1⟩
    replace hC := Lib.hid (hC.out.trans hC1)
    clear hC1
    go_wp2_with fail
    go_ret
    exact ⟨rfl, hC.out.below⟩
  | false =>
    go_wp2_with fail
    refine (hprt.out w2 hC.out).mono ?_
    rintro e w3 ⟨hC1, hcase⟩
    replace hC := Lib.hid (hC.out.trans hC1)
    clear hC1 hprt
    rcases hcase with ⟨t, ht, htl, rfl⟩ | ⟨hnone, rfl⟩
    · obtain ⟨cs, hcs, hkeys⟩ := print_parse ht (by omega)
      have hpa := Lib.hid (parse_any w3 t (by omega))
      replace hcs := Lib.hid hcs
      replace hkeys := Lib.hid hkeys
      clear ht htl
      go_wp2_with fail
      refine (hpa.out).mono ?_
      rintro e w4 h4
      obtain ⟨hC4, A3, n3, c3, xs3, rfl, hn3, hS3, hX3, -⟩ := parse_ok h4 hcs.out
      have K3 := kcmds hS3 hX3 hn3
      have m3 := sl_max hS3
      subst hn3
      replace hC := Lib.hid (hC.out.trans hC4)
      have K1 := Kd.C_below hk.out hC.out.below
      clear h4 hC4 hS3 hX3 hpa
      have hsa := same_any w4 A A3 c c3 l (cs.map kcmd) n cs.length hn.out (by simp) K1 K3 hlc m3.1
      have hdec : decide ((l.map ckey) = ((cs.map kcmd).map ckey)) = true := by
        apply decide_eq_true
        rw [ckeys_kcmd, hkeys.out]
      rw [hdec] at hsa
      replace hsa := Lib.hid hsa
      clear hdec K1 K3
      go_wp2_with fail
      refine (hsa.out).mono ?_
      rintro e w5 ⟨rfl, hC5⟩
      replace hC := Lib.hid (hC.out.trans hC5)
      clear hC5 hsa hk
      go_upto_region 8 with fail
      go_cut [1] (fun v1 wx => ∃ S : List UInt8, S.length ≤ 5000 ∧ v1 = .string (bstr S) ∧ Hid (Chg [] w wx))
      case first =>
        by_cases hs2 : s.size ≤ 5000
        all_goals
          go_wp2_with fail
          go_meet
          first
          | exact ⟨_, by show List.length (Array.toList _) ≤ _; rw [Array.length_toList]; show ByteArray.size _ ≤ _; first | exact hs2 | (rw [ByteArray.size_extract]; omega), congrArg _ (bstr_of rfl), hC⟩
      case rest =>
      obtain ⟨S, hS, rfl, hC9⟩ := hcut
      have hbs : (bstr S).size = S.length := rfl
      have p1 := Lib.hid (fun W => parse_any W S (by omega))
      obtain ⟨B, hBe⟩ : ∃ B, bstr S = B := ⟨_, rfl⟩
      rw [hBe] at p1 hbs ⊢
      clear hBe hC
      cases hp : parse S with
      | error b =>
        obtain ⟨p, q⟩ := b
        have hpl : p ≤ S.length := parse_err hp
        replace hp := Lib.hid hp
        go_wp2_with fail
        refine (p1.out _).mono ?_
        rintro e w1 h1
        obtain ⟨hC1, rfl⟩ := parse_bad h1 hp.out
        have hq := parse_err_ne h1 hp.out
        have hq' : ((q : Int) != 0) = true := by simp; omega
        have hp1 : decide ((p : Int) ≥ 0) = true := by simp
        have hp2 : decide ((p : Int) ≤ (S.length : Int)) = true := by simp; omega
        have hp3 : decide (p ≤ S.length) = true := by simp; omega
        replace hC9 := Lib.hid (hC9.out.trans hC1)
        clear h1 hC1
        go_wp2_with fail
        go_ret
        exact ⟨rfl, hC9.out.below⟩
      | ok a =>
        obtain ⟨⟨t2, ht2⟩, hcost⟩ := parse_print hp
        have hcl : costL ((a.map kcmd).map ckey) ≤ 15000000 := by rw [ckeys_kcmd, cost_parsed]; omega
        replace hp := Lib.hid hp
        replace ht2 := Lib.hid ht2
        go_wp2_with fail
        refine (p1.out _).mono ?_
        rintro e w1 h1
        obtain ⟨hC1, A1, n1, c1, xs1, rfl, hn1, hS1, hX1, -⟩ := parse_ok h1 hp.out
        have K1 := kcmds hS1 hX1 hn1
        have m1 := sl_max hS1
        subst hn1
        replace hC9 := Lib.hid (hC9.out.trans hC1)
        have hpr := print_any w1 A1 a.length c1 (a.map kcmd) (by simp) K1 hcl
        rw [ckeys_kcmd] at hpr
        unfold PrEnd at hpr
        replace hpr := Lib.hid hpr
        replace K1 := Lib.hid K1
        clear h1 hC1 hS1 hX1 hcost hcl
        go_wp2_with fail
        refine (hpr.out).mono ?_
        rintro e w2 ⟨hC2, hcase⟩
        clear hpr
        rcases hcase with ⟨t', ht', hl', rfl⟩ | ⟨hn', -⟩
        rotate_left
        · rw [ht2.out] at hn'; cases hn'
        obtain ⟨cs', hcs, hkeys⟩ := print_parse ht' (by omega)
        replace K1 := Lib.hid (Kd.C_below K1.out hC2.below)
        replace hC9 := Lib.hid (hC9.out.trans hC2)
        have hpa := Lib.hid (parse_any w2 t' (by omega))
        replace hcs := Lib.hid hcs
        replace hkeys := Lib.hid hkeys
        clear hC2 ht' hl'
        go_wp2_with fail
        refine (hpa.out).mono ?_
        rintro e w3 h3
        obtain ⟨hC3, A3, n3, c3, xs3, rfl, hn3, hS3, hX3, -⟩ := parse_ok h3 hcs.out
        have K3 := Lib.hid (kcmds hS3 hX3 hn3)
        have m3 := sl_max hS3
        subst hn3
        replace K1 := Lib.hid (Kd.C_below K1.out hC3.below)
        replace hC9 := Lib.hid (hC9.out.trans hC3)
        clear h3 hC3 hS3 hX3 hpa
        have hdec : decide (((a.map kcmd).map ckey) = ((cs'.map kcmd).map ckey)) = true := by
          apply decide_eq_true
          rw [ckeys_kcmd, ckeys_kcmd, hkeys.out]
        replace hdec := Lib.hid hdec
        go_wp2_with fail
        ((with_reducible refine (same_any _ _ _ c1 c3 (a.map kcmd) (cs'.map kcmd) a.length cs'.length (by simp) (by simp) K1.out K3.out m1.1 m3.1).mono ?_); skip)
        rintro e w4 ⟨rfl, hC4⟩
        rw [hdec.out]
        replace hC9 := Lib.hid (hC9.out.trans hC4)
        clear hC4 K1 K3
        go_wp2_with fail
        go_ret
        exact ⟨rfl, hC9.out.below⟩
    · clear hnone hk
      go_upto_region 8 with fail
      go_cut [1] (fun v1 wx => ∃ S : List UInt8, S.length ≤ 5000 ∧ v1 = .string (bstr S) ∧ Hid (Chg [] w wx))
      case first =>
        by_cases hs2 : s.size ≤ 5000
        all_goals
          go_wp2_with fail
          go_meet
          first
          | exact ⟨_, by show List.length (Array.toList _) ≤ _; rw [Array.length_toList]; show ByteArray.size _ ≤ _; first | exact hs2 | (rw [ByteArray.size_extract]; omega), congrArg _ (bstr_of rfl), hC⟩
      case rest =>
      obtain ⟨S, hS, rfl, hC9⟩ := hcut
      have hbs : (bstr S).size = S.length := rfl
      have p1 := Lib.hid (fun W => parse_any W S (by omega))
      obtain ⟨B, hBe⟩ : ∃ B, bstr S = B := ⟨_, rfl⟩
      rw [hBe] at p1 hbs ⊢
      clear hBe hC
      cases hp : parse S with
      | error b =>
        obtain ⟨p, q⟩ := b
        have hpl : p ≤ S.length := parse_err hp
        replace hp := Lib.hid hp
        go_wp2_with fail
        refine (p1.out _).mono ?_
        rintro e w1 h1
        obtain ⟨hC1, rfl⟩ := parse_bad h1 hp.out
        have hq := parse_err_ne h1 hp.out
        have hq' : ((q : Int) != 0) = true := by simp; omega
        have hp1 : decide ((p : Int) ≥ 0) = true := by simp
        have hp2 : decide ((p : Int) ≤ (S.length : Int)) = true := by simp; omega
        have hp3 : decide (p ≤ S.length) = true := by simp; omega
        replace hC9 := Lib.hid (hC9.out.trans hC1)
        clear h1 hC1
        go_wp2_with fail
        go_ret
        exact ⟨rfl, hC9.out.below⟩
      | ok a =>
        obtain ⟨⟨t2, ht2⟩, hcost⟩ := parse_print hp
        have hcl : costL ((a.map kcmd).map ckey) ≤ 15000000 := by rw [ckeys_kcmd, cost_parsed]; omega
        replace hp := Lib.hid hp
        replace ht2 := Lib.hid ht2
        go_wp2_with fail
        refine (p1.out _).mono ?_
        rintro e w1 h1
        obtain ⟨hC1, A1, n1, c1, xs1, rfl, hn1, hS1, hX1, -⟩ := parse_ok h1 hp.out
        have K1 := kcmds hS1 hX1 hn1
        have m1 := sl_max hS1
        subst hn1
        replace hC9 := Lib.hid (hC9.out.trans hC1)
        have hpr := print_any w1 A1 a.length c1 (a.map kcmd) (by simp) K1 hcl
        rw [ckeys_kcmd] at hpr
        unfold PrEnd at hpr
        replace hpr := Lib.hid hpr
        replace K1 := Lib.hid K1
        clear h1 hC1 hS1 hX1 hcost hcl
        go_wp2_with fail
        refine (hpr.out).mono ?_
        rintro e w2 ⟨hC2, hcase⟩
        clear hpr
        rcases hcase with ⟨t', ht', hl', rfl⟩ | ⟨hn', -⟩
        rotate_left
        · rw [ht2.out] at hn'; cases hn'
        obtain ⟨cs', hcs, hkeys⟩ := print_parse ht' (by omega)
        replace K1 := Lib.hid (Kd.C_below K1.out hC2.below)
        replace hC9 := Lib.hid (hC9.out.trans hC2)
        have hpa := Lib.hid (parse_any w2 t' (by omega))
        replace hcs := Lib.hid hcs
        replace hkeys := Lib.hid hkeys
        clear hC2 ht' hl'
        go_wp2_with fail
        refine (hpa.out).mono ?_
        rintro e w3 h3
        obtain ⟨hC3, A3, n3, c3, xs3, rfl, hn3, hS3, hX3, -⟩ := parse_ok h3 hcs.out
        have K3 := Lib.hid (kcmds hS3 hX3 hn3)
        have m3 := sl_max hS3
        subst hn3
        replace K1 := Lib.hid (Kd.C_below K1.out hC3.below)
        replace hC9 := Lib.hid (hC9.out.trans hC3)
        clear h3 hC3 hS3 hX3 hpa
        have hdec : decide (((a.map kcmd).map ckey) = ((cs'.map kcmd).map ckey)) = true := by
          apply decide_eq_true
          rw [ckeys_kcmd, ckeys_kcmd, hkeys.out]
        replace hdec := Lib.hid hdec
        go_wp2_with fail
        ((with_reducible refine (same_any _ _ _ c1 c3 (a.map kcmd) (cs'.map kcmd) a.length cs'.length (by simp) (by simp) K1.out K3.out m1.1 m3.1).mono ?_); skip)
        rintro e w4 ⟨rfl, hC4⟩
        rw [hdec.out]
        replace hC9 := Lib.hid (hC9.out.trans hC4)
        clear hC4 K1 K3
        go_wp2_with fail
        go_ret
        exact ⟨rfl, hC9.out.below⟩
theorem tclBack_row (v0 : Value) (d0 : Dt) (v1 : Value) (d1 : Dt) (w : World) (h0 : Reads w (.sl [.int .i64, .sl [.int .i64, .int .i64, .sl [.bool, .str]]]) v0 d0) (hb0 : bulkD d0 ≤ 1048576) (h1 : Reads w .str v1 d1) :
    Calls Try.prog 7 #[v0, v1] w fun e w' => e = .returned (.bool true) ∧ Below w.heap.size w w' := by
  obtain ⟨A, c, ys, rfl, hlc, -, hk, hcost⟩ := cmds_of_reads h0
  cases h1 with
  | str a0 => exact tclBack_walk w A c ys hlc hk (by omega) _ a0
end Go.Proofs.Yteodhnblbehenaa
namespace Go.Proofs.Yteodhnblbehenaa
namespace Tcl
theorem skip_stops {s : List UInt8} {l : List Cmd} {r : List UInt8} : ∀ (ws : List UInt8) (i : Nat), (∀ c ∈ ws, stopB c = true) → s.drop i = ws ++ r → s.drop (i + ws.length) = r ∧ parseGo s i l = parseGo s (i + ws.length) l := by
  intro ws
  induction ws with
  | nil => intro i _ h; exact ⟨h, rfl⟩
  | cons c ws ih =>
    intro i hw h
    obtain ⟨h0, h1⟩ := drop_cons' (h : s.drop i = c :: (ws ++ r))
    obtain ⟨h2, h3⟩ := ih (i + 1) (fun x hx => hw x (by simp [hx])) h1
    rw [show i + 1 + ws.length = i + (c :: ws).length by simp; omega] at h2 h3
    exact ⟨h2, by rw [parse_some h0, if_pos (hw c (by simp)), h3]⟩
theorem skip_blanks {s : List UInt8} {acc : List Word} {e : UInt8} {r : List UInt8} (he : endB e = true) : ∀ (ws : List UInt8) (i : Nat), (∀ c ∈ ws, blankB c = true ∧ endB c = false) → s.drop i = ws ++ e :: r → s.drop (i + ws.length) = e :: r ∧ command s i acc = .ok (acc, i + ws.length) := by
  intro ws
  induction ws with
  | nil =>
    intro i _ h
    obtain ⟨h0, -⟩ := drop_cons' (h : s.drop i = e :: r)
    exact ⟨h, by rw [command_some h0, if_pos he]; rfl⟩
  | cons c ws ih =>
    intro i hw h
    obtain ⟨h0, h1⟩ := drop_cons' (h : s.drop i = c :: (ws ++ e :: r))
    obtain ⟨h2, h3⟩ := ih (i + 1) (fun x hx => hw x (by simp [hx])) h1
    rw [show i + 1 + ws.length = i + (c :: ws).length by simp; omega] at h2 h3
    obtain ⟨b1, b2⟩ := hw c (by simp)
    exact ⟨h2, by rw [command_some h0, b2, if_neg (by decide), if_pos b1, h3]⟩
/-- What is written of a command. -/
def form (z : Int) (x : List UInt8) : List UInt8 :=
  if z = 0 then [32, 32, 9] ++ (x ++ [10]) ++ [10, 59, 59, 10]
  else if z = 1 then [35, 32, 115, 101, 110, 100, 32, 123, 34, 91, 10] ++ (x ++ [10])
  else if z = 2 then x ++ [9, 32, 59]
  else [59] ++ (x ++ [10]) ++ [32, 9, 10]
theorem form_len (z : Int) (x : List UInt8) : (form z x).length ≤ x.length + 12 := by
  unfold form
  split
  · simp
  · split
    · simp
    · split
      · simp
      · simp
theorem form_back {s : List UInt8} {i : Nat} {x r : List UInt8} {c : CK} {z : Int} {l : List Cmd} (h : cmdK c = some x) (hs : s.drop i = form z x ++ r) :
    ∃ j cm, s.drop j = r ∧ parseGo s i l = parseGo s j (l ++ [cm]) ∧ ckeyP cm = c := by
  unfold form at hs
  split at hs
  · have hs' : s.drop i = [32, 32, 9] ++ (x ++ 10 :: ([10, 59, 59, 10] ++ r)) := by rw [hs]; simp
    obtain ⟨h1, h2⟩ := skip_stops (l := l) _ i (by decide) hs'
    obtain ⟨j, cm, h3, h4, h5, h6⟩ := cmd_line (l := l) h h1
    obtain ⟨h7, h8⟩ := skip_stops (l := l ++ [cm]) _ j (by decide) h3
    exact ⟨_, cm, h7, by rw [h2, h5, h8], h6⟩
  · split at hs
    · have hs' : s.drop i = [35, 32, 115, 101, 110, 100, 32, 123, 34, 91] ++ (10 :: (x ++ 10 :: r)) := by rw [hs]; simp
      have hll : lineLen (s.drop i) = 10 := by rw [hs']; simp [lineLen]
      obtain ⟨h0, -⟩ := drop_cons' (hs'.trans rfl : s.drop i = 35 :: ([32, 115, 101, 110, 100, 32, 123, 34, 91] ++ (10 :: (x ++ 10 :: r))))
      have h1 : s.drop (i + 10) = 10 :: (x ++ 10 :: r) := by
        rw [← List.drop_drop, hs']; rfl
      obtain ⟨h2, h3⟩ := skip_stops (l := l) [10] (i + 10) (by decide) h1
      obtain ⟨j, cm, h4, h5, h6, h7⟩ := cmd_line (l := l) h h2
      refine ⟨j, cm, h4, ?_, h7⟩
      rw [parse_some h0, if_neg (by decide), if_pos rfl, hll, if_pos (by decide), h3, h6]
    · split at hs
      · have hs' : s.drop i = x ++ 9 :: ([32, 59] ++ r) := by rw [hs]; simp
        obtain ⟨ch, j, wds, g1, g2, g3, g4, g5, g6, g7⟩ := cmd_back (e := 9) rfl h hs'
        obtain ⟨h1, h2⟩ := skip_blanks (acc := wds) (e := 59) (r := r) rfl [9, 32] j (by decide) g4
        obtain ⟨h3, h4⟩ := skip_stops (l := l ++ [⟨i, wds⟩]) [59] (j + 2) (by decide) h1
        refine ⟨_, ⟨i, wds⟩, h3, ?_, g7⟩
        rw [parse_some g1, g2, if_neg (by decide), if_neg g3, g6, h2]
        simp only
        rw [if_pos (by simp; omega)]
        exact h4
      · have hs' : s.drop i = [59] ++ (x ++ 10 :: ([32, 9, 10] ++ r)) := by rw [hs]; simp
        obtain ⟨h1, h2⟩ := skip_stops (l := l) _ i (by decide) hs'
        obtain ⟨j, cm, h3, h4, h5, h6⟩ := cmd_line (l := l) h h1
        obtain ⟨h7, h8⟩ := skip_stops (l := l ++ [cm]) _ j (by decide) h3
        exact ⟨_, cm, h7, by rw [h2, h5, h8], h6⟩
/-- How much is written: `S` as Print has it, `T` with blanks and remarks between. -/
def Written (ks : List CK) (S T : List UInt8) : Prop := printK ks = some S ∧ ∀ (s r : List UInt8) (i : Nat) (l : List Cmd), s.drop i = T ++ r → ∃ j cs, s.drop j = r ∧ parseGo s i l = parseGo s j (l ++ cs) ∧ cs.map ckeyP = ks
theorem printK_snoc {c : CK} {x : List UInt8} (h : cmdK c = some x) : ∀ (ks : List CK) (S : List UInt8), printK ks = some S → printK (ks ++ [c]) = some (S ++ (x ++ [10])) := by
  intro ks
  induction ks with
  | nil => intro S hS; rw [printK] at hS; cases hS; rw [List.nil_append, printK, h]; simp [printK]
  | cons k ks ih =>
    intro S hS
    rw [printK] at hS
    split at hS
    · cases hS
    · rename_i y hy
      split at hS
      · cases hS
      · rename_i z hz
        cases hS
        rw [List.cons_append, printK, hy]
        simp only
        rw [ih z hz]
        simp
theorem written_nil : Written [] [] [] := ⟨rfl, fun s r i l h => ⟨i, [], h, by simp, rfl⟩⟩
theorem written_snoc {ks : List CK} {S T x : List UInt8} {c : CK} (h : Written ks S T) (hc : cmdK c = some x) (z : Int) : Written (ks ++ [c]) (S ++ (x ++ [10])) (T ++ form z x) := by
  refine ⟨printK_snoc hc ks S h.1, fun s r i l hs => ?_⟩
  rw [List.append_assoc] at hs
  obtain ⟨j, cs, h1, h2, h3⟩ := h.2 s _ i l hs
  obtain ⟨k, cm, h4, h5, h6⟩ := form_back (l := l ++ cs) hc h1
  exact ⟨k, cs ++ [cm], h4, by rw [h2, h5]; simp, by simp [h3, h6]⟩
theorem written_parse {ks : List CK} {S T : List UInt8} (h : Written ks S T) (hS : S.length ≤ 16777216) (hT : T.length ≤ 16777216) : (∃ a, parse S = .ok a ∧ a.map ckeyP = ks) ∧ (∃ b, parse T = .ok b ∧ b.map ckeyP = ks) := by
  refine ⟨print_parse h.1 hS, ?_⟩
  obtain ⟨j, cs, h1, h2, h3⟩ := h.2 T [] 0 [] (by simp)
  refine ⟨cs, ?_, h3⟩
  unfold parse
  rw [if_neg (by omega), h2]
  have hj : T[j]? = none := by rw [← List.head?_drop, h1]; rfl
  rw [parse_none hj]
  simp
end Tcl
end Go.Proofs.Yteodhnblbehenaa
namespace Go.Proofs.Yteodhnblbehenaa
open Go.RowKit Tcl PTclParses YteodhnblbehenaaW.PrintWords
theorem keys_step {α β : Type} [DecidableEq β] (f : α → β) {l m : List α} {i : Nat} (hl : i < l.length) (hm : i < m.length) : decide ((l.drop i).map f = (m.drop i).map f) = (decide (f l[i] = f m[i]) && decide ((l.drop (i + 1)).map f = (m.drop (i + 1)).map f)) := by
  rw [List.drop_eq_getElem_cons hl, List.drop_eq_getElem_cons hm, List.map_cons, List.map_cons]
  simp only [List.cons.injEq]
  by_cases h1 : f l[i] = f m[i]
  · by_cases h2 : (l.drop (i + 1)).map f = (m.drop (i + 1)).map f
    · simp [h1, h2]
    · simp [h1, h2]
  · simp [h1]
theorem keys_len {α β : Type} [DecidableEq β] (f : α → β) {l m : List α} (h : l.length ≠ m.length) : decide (l.map f = m.map f) = false := by
  apply decide_eq_false
  intro e
  have := congrArg List.length e
  simp at this
  exact h this
theorem run_neq_part (W : World) (x y : S41) : (binOp .neq 41 (.agg #[.bool x.f0, .string x.f1]) (.agg #[.bool y.f0, .string y.f1])).run Try.prog W = .ok (.bool (!decide (pkey x = pkey y))) W := by
  have h := eqA41 9998 W x.f0 y.f0 x.f1 y.f1
  have e : (!(x.f0 == y.f0 && (x.f1.toList == y.f1.toList))) = !decide (pkey x = pkey y) := by rw [← part_eq, Bool.not_and]
  simp only [binOp]
  simp only [Op.equal, Op.maxDepth, Sem.run_bind, Sem.run_pure, h, Result.andThen_ok, e]
set_option maxRecDepth 100000 in
set_option maxHeartbeats 8000000 in
theorem equalp_any (w : World) (A B : Option Addr) (n m c e : Nat) (l k : List S41) (hn : n = l.length) (hm : m = k.length) (h1 : k41.C w A n l) (h2 : k41.C w B m k) (hn9 : n ≤ 9223372036854775807) :
    Calls Try.prog 37 #[.slice A n c, .slice B m e] w fun e w' => e = .returned (.bool (decide (l.map pkey = k.map pkey))) ∧ Chg [] w w' := by
  obtain ⟨b, hb⟩ : ∃ b, decide (l.map pkey = k.map pkey) = b := ⟨_, rfl⟩
  rw [hb]
  by_cases hnm : n = m
  · subst hnm
    replace hb := Lib.hid hb
    replace hn := Lib.hid hn
    replace hm := Lib.hid hm
    replace h1 := Lib.hid h1
    replace h2 := Lib.hid h2
    go_enter Try.func37, Try.ntmps37
    go_wp2_with fail
    go_loopg [13] n (fun gk v13 wr => ∃ i : Nat, v13 = .int .i64 i ∧ i ≤ n ∧ gk = n - i ∧ Hid (b = decide ((l.drop i).map pkey = (k.drop i).map pkey)) ∧ Hid (Chg [] w wr))
    case atStart => exact ⟨0, rfl, by omega, by omega, Lib.hid (by rw [← hb.out]; rfl), Lib.hid (Chg.refl _ _)⟩
    case round =>
      obtain ⟨i, rfl, hi, rfl, hR, hC⟩ := hrel
      by_cases hlt : i < n
      · have hl1 : i < l.length := by have := hn.out; omega
        have hl2 : i < k.length := by have := hm.out; omega
        obtain ⟨ad, rfl, q0, q1⟩ := at_T41 h1.out (i : Int) (by omega) (by omega)
        obtain ⟨bd, rfl, r0, r1⟩ := at_T41 h2.out (i : Int) (by omega) (by omega)
        have ea : rd_T41 l (i : Int) = l[i] := by unfold rd_T41; simp [List.getD, hl1]
        have eb : rd_T41 k (i : Int) = k[i] := by unfold rd_T41; simp [List.getD, hl2]
        rw [ea] at q0 q1
        rw [eb] at r0 r1
        clear ea eb
        simp only [Int.toNat_natCast] at q0 q1 r0 r1
        replace q0 := hC.out.cell q0 (by simp)
        replace q1 := hC.out.cell q1 (by simp)
        replace r0 := hC.out.cell r0 (by simp)
        replace r1 := hC.out.cell r1 (by simp)
        have hR2 := hR.out.trans (keys_step pkey hl1 hl2)
        have hpe := part_eq l[i] k[i]
        generalize l[i] = x at q0 q1 hR2 hpe
        generalize k[i] = y at r0 r1 hR2 hpe
        obtain ⟨d, hd⟩ : ∃ d, decide (pkey x = pkey y) = d := ⟨_, rfl⟩
        rw [hd] at hpe hR2
        replace hR2 := Lib.hid hR2
        replace hd := Lib.hid hd
        clear hR hpe
        have hne : ∀ W : World, (binOp .neq 41 (.agg #[.bool x.f0, .string x.f1]) (.agg #[.bool y.f0, .string y.f1])).run Try.prog W = .ok (.bool (!d)) W := fun W => by rw [run_neq_part, hd.out]
        cases d with
        | false =>
          obtain rfl : b = false := by rw [hR2.out]; rfl
          go_wp2_with fail
          go_quiet (fail)
          go_wp2_with fail
          (try rw [Exit.noGoto_ret])
          go_ret
          exact ⟨rfl, hC.out.drewN _⟩
        | true =>
          have hR3 : Hid (b = decide ((l.drop (i + 1)).map pkey = (k.drop (i + 1)).map pkey)) := Lib.hid (by have := hR2.out; rwa [Bool.true_and] at this)
          go_wp2_with fail
          go_quiet (fail)
          have hC2 := Lib.hid (hC.out.drewN nq)
          go_wp2_with fail
          go_roundg (n - (i + 1))
          case measure => omega
          case rel => exact ⟨i + 1, by go_num, by omega, rfl, hR3, hC2⟩
      · obtain rfl : i = n := by omega
        obtain rfl : b = true := by
          rw [hR.out, List.drop_eq_nil_of_le (by have := hn.out; omega), List.drop_eq_nil_of_le (by have := hm.out; omega)]; rfl
        go_wp2_with fail
        go_ret
        exact ⟨rfl, hC.out⟩
  · have e1 : ((n : Int) != (m : Int)) = true := by simp; omega
    obtain rfl : b = false := by rw [← hb]; exact keys_len pkey (by omega)
    clear hb hn hm h1 h2
    go_enter Try.func37, Try.ntmps37
    go_wp2_with fail
    go_ret
    exact ⟨rfl, Chg.refl _ _⟩
set_option maxRecDepth 100000 in
set_option maxHeartbeats 8000000 in
theorem s2_any (w : World) (a1 k1 a2 k2 : Int) (A B : Option Addr) (n m c e : Nat) (l k : List S41) (hn : n = l.length) (hm : m = k.length) (h1 : k41.C w A n l) (h2 : k41.C w B m k) (hn9 : n ≤ 9223372036854775807) :
    Calls Try.prog 36 #[.agg #[.int .i64 a1, .int .i64 k1, .slice A n c], .agg #[.int .i64 a2, .int .i64 k2, .slice B m e]] w fun e w' => e = .returned (.bool (decide ((k1, l.map pkey) = (k2, k.map pkey)))) ∧ Chg [] w w' := by
  have hA := ((Chg.refl [] w).alloc (.cells #[.int .i64 a1, .int .i64 k1, .slice A n c] 38)).alloc (.cells #[.int .i64 a2, .int .i64 k2, .slice B m e] 38)
  have heq := Lib.hid (equalp_any ((w.alloc (.cells #[.int .i64 a1, .int .i64 k1, .slice A n c] 38)).alloc (.cells #[.int .i64 a2, .int .i64 k2, .slice B m e] 38)) A B n m c e l k hn hm (Kd.C_below h1 hA.below) (Kd.C_below h2 hA.below) hn9)
  replace hA := Lib.hid hA
  clear h1 h2 hn hm
  by_cases hk : k1 = k2
  · have ek : (k1 == k2) = true := by simpa using hk
    obtain ⟨b, hb⟩ : ∃ b, decide (l.map pkey = k.map pkey) = b := ⟨_, rfl⟩
    have hb2 : decide ((k1, l.map pkey) = (k2, k.map pkey)) = b := by rw [← hb]; simp [hk]
    rw [hb2]
    rw [hb] at heq
    clear hb hb2 hk
    go_enter Try.func36, Try.ntmps36
    go_wp2_with fail
    refine (heq.out).mono ?_
    rintro e w' ⟨rfl, hC⟩
    have hC2 := Lib.hid (hA.out.trans hC)
    clear hC heq hA
    go_wp2_with fail
    go_ret
    exact ⟨rfl, hC2.out⟩
  · have ek : (k1 == k2) = false := by rw [beq_eq_false_iff_ne]; exact hk
    have hb2 : decide ((k1, l.map pkey) = (k2, k.map pkey)) = false := decide_eq_false (fun h => hk (by simpa using congrArg Prod.fst h))
    rw [hb2]
    clear heq hb2 hk
    go_enter Try.func36, Try.ntmps36
    go_wp2_with fail
    go_ret
    exact ⟨rfl, hA.out⟩
set_option maxRecDepth 100000 in
set_option maxHeartbeats 8000000 in
theorem eqw_any (w : World) (A B : Option Addr) (n m c e : Nat) (l k : List S38) (hn : n = l.length) (hm : m = k.length) (h1 : k38.C w A n l) (h2 : k38.C w B m k) (hn9 : n ≤ 9223372036854775807) (hs : ∀ x ∈ l, x.f2.length ≤ 9223372036854775807) :
    Calls Try.prog 35 #[.slice A n c, .slice B m e, .func (.func 36) #[] #[]] w fun e w' => e = .returned (.bool (decide (l.map wkey = k.map wkey))) ∧ Chg [] w w' := by
  obtain ⟨b, hb⟩ : ∃ b, decide (l.map wkey = k.map wkey) = b := ⟨_, rfl⟩
  rw [hb]
  by_cases hnm : n = m
  · subst hnm
    replace hb := Lib.hid hb
    replace hn := Lib.hid hn
    replace hm := Lib.hid hm
    replace h1 := Lib.hid h1
    replace h2 := Lib.hid h2
    replace hs := Lib.hid hs
    go_enter Try.func35, Try.ntmps35
    go_wp2_with fail
    go_loopg [17] n (fun gk v17 wr => ∃ i : Nat, v17 = .int .i64 i ∧ i ≤ n ∧ gk = n - i ∧ Hid (b = decide ((l.drop i).map wkey = (k.drop i).map wkey)) ∧ Hid (Chg [] w wr))
    case atStart => exact ⟨0, rfl, by omega, by omega, Lib.hid (by rw [← hb.out]; rfl), Lib.hid (Chg.refl _ _)⟩
    case round =>
      obtain ⟨i, rfl, hi, rfl, hR, hC⟩ := hrel
      by_cases hlt : i < n
      · have hl1 : i < l.length := by have := hn.out; omega
        have hl2 : i < k.length := by have := hm.out; omega
        obtain ⟨ad, A2, c2, rfl, q0, q1, q2, qc, qk⟩ := at_T38 h1.out (i : Int) (by omega) (by omega)
        obtain ⟨bd, B2, e2, rfl, r0, r1, r2, rc, rk⟩ := at_T38 h2.out (i : Int) (by omega) (by omega)
        have ea : rd_T38 l (i : Int) = l[i] := by unfold rd_T38; simp [List.getD, hl1]
        have eb : rd_T38 k (i : Int) = k[i] := by unfold rd_T38; simp [List.getD, hl2]
        rw [ea] at q0 q1 q2 qc qk
        rw [eb] at r0 r1 r2 rc rk
        clear ea eb
        simp only [Int.toNat_natCast] at q0 q1 q2 r0 r1 r2
        have hC1 := hC.out
        replace q0 := hC1.cell q0 (by simp)
        replace q1 := hC1.cell q1 (by simp)
        replace q2 := hC1.cell q2 (by simp)
        have r0a := fun o => (hC1.alloc o).cell r0 (by simp)
        have r1a := fun o => (hC1.alloc o).cell r1 (by simp)
        have r2a := fun o => (hC1.alloc o).cell r2 (by simp)
        have hR2 := hR.out.trans (keys_step wkey hl1 hl2)
        have hsx := hs.out l[i] (List.getElem_mem hl1)
        generalize l[i] = x at q0 q1 q2 qc qk hR2 hsx
        generalize k[i] = y at r0 r1 r2 rc rk r0a r1a r2a hR2
        obtain ⟨xa, xk, xp⟩ := x
        obtain ⟨ya, yk, yp⟩ := y
        simp only at q0 q1 q2 qc qk r0 r1 r2 rc rk r0a r1a r2a hsx
        have hA := (hC1.alloc (.cells #[.int .i64 xa, .int .i64 xk, .slice A2 xp.length c2] 38)).alloc (.cells #[.int .i64 ya, .int .i64 yk, .slice B2 yp.length e2] 38)
        have hcall := s2_any ((wr.alloc (.cells #[.int .i64 xa, .int .i64 xk, .slice A2 xp.length c2] 38)).alloc (.cells #[.int .i64 ya, .int .i64 yk, .slice B2 yp.length e2] 38)) xa xk ya yk A2 B2 xp.length yp.length c2 e2 xp yp rfl rfl (Kd.C_below qk hA.below) (Kd.C_below rk hA.below) hsx
        obtain ⟨d, hd⟩ : ∃ d, decide ((xk, xp.map pkey) = (yk, yp.map pkey)) = d := ⟨_, rfl⟩
        have hd2 : decide (wkey ⟨xa, xk, xp⟩ = wkey ⟨ya, yk, yp⟩) = d := hd
        rw [hd] at hcall
        rw [hd2] at hR2
        obtain ⟨xn, hxn⟩ : ∃ xn, xp.length = xn := ⟨_, rfl⟩
        obtain ⟨yn, hyn⟩ : ∃ yn, yp.length = yn := ⟨_, rfl⟩
        rw [hxn] at q2 hcall hA
        rw [hyn] at r2a hcall hA
        replace hcall := Lib.hid hcall
        replace hA := Lib.hid hA
        replace hR2 := Lib.hid hR2
        clear hR hd hd2 hC1 r0 r1 r2 qc rc qk rk hsx hxn hyn
        go_wp2_with fail
        refine (hcall.out).mono ?_
        rintro e w' ⟨rfl, hC3⟩
        have hC4 := Lib.hid (hA.out.trans hC3)
        clear hC3 hcall hA q0 q1 q2 r0a r1a r2a
        cases d with
        | false =>
          obtain rfl : b = false := by rw [hR2.out]; rfl
          go_wp2_with fail
          (try rw [Exit.noGoto_ret])
          go_ret
          exact ⟨rfl, hC4.out⟩
        | true =>
          have hR3 : Hid (b = decide ((l.drop (i + 1)).map wkey = (k.drop (i + 1)).map wkey)) := Lib.hid (by have := hR2.out; rwa [Bool.true_and] at this)
          go_wp2_with fail
          go_roundg (n - (i + 1))
          case measure => omega
          case rel => exact ⟨i + 1, by go_num, by omega, rfl, hR3, hC4⟩
      · obtain rfl : i = n := by omega
        obtain rfl : b = true := by
          rw [hR.out, List.drop_eq_nil_of_le (by have := hn.out; omega), List.drop_eq_nil_of_le (by have := hm.out; omega)]; rfl
        go_wp2_with fail
        go_ret
        exact ⟨rfl, hC.out⟩
  · have e1 : ((n : Int) != (m : Int)) = true := by simp; omega
    obtain rfl : b = false := by rw [← hb]; exact keys_len wkey (by omega)
    clear hb hn hm h1 h2
    go_enter Try.func35, Try.ntmps35
    go_wp2_with fail
    go_ret
    exact ⟨rfl, Chg.refl _ _⟩
set_option maxRecDepth 100000 in
set_option maxHeartbeats 8000000 in
theorem s1_any (w : World) (a1 a2 : Int) (A B : Option Addr) (n m c e : Nat) (l k : List S38) (hn : n = l.length) (hm : m = k.length) (h1 : k38.C w A n l) (h2 : k38.C w B m k) (hn9 : n ≤ 9223372036854775807) (hs : ∀ x ∈ l, x.f2.length ≤ 9223372036854775807) :
    Calls Try.prog 34 #[.agg #[.int .i64 a1, .slice A n c], .agg #[.int .i64 a2, .slice B m e]] w fun e w' => e = .returned (.bool (decide (l.map wkey = k.map wkey))) ∧ Chg [] w w' := by
  have hA := ((Chg.refl [] w).alloc (.cells #[.int .i64 a1, .slice A n c] 33)).alloc (.cells #[.int .i64 a2, .slice B m e] 33)
  have heq := Lib.hid (eqw_any ((w.alloc (.cells #[.int .i64 a1, .slice A n c] 33)).alloc (.cells #[.int .i64 a2, .slice B m e] 33)) A B n m c e l k hn hm (Kd.C_below h1 hA.below) (Kd.C_below h2 hA.below) hn9 hs)
  replace hA := Lib.hid hA
  clear h1 h2 hn hm hs
  obtain ⟨b, hb⟩ : ∃ b, decide (l.map wkey = k.map wkey) = b := ⟨_, rfl⟩
  rw [hb] at heq ⊢
  clear hb
  go_enter Try.func34, Try.ntmps34
  go_wp2_with fail
  refine (heq.out).mono ?_
  rintro e w' ⟨rfl, hC⟩
  have hC2 := Lib.hid (hA.out.trans hC)
  clear hC heq hA
  go_wp2_with fail
  go_ret
  exact ⟨rfl, hC2.out⟩
set_option maxRecDepth 100000 in
set_option maxHeartbeats 8000000 in
theorem eqc_any (w : World) (A B : Option Addr) (n m c e : Nat) (l k : List S33) (hn : n = l.length) (hm : m = k.length) (h1 : k33.C w A n l) (h2 : k33.C w B m k) (hn9 : n ≤ 9223372036854775807) (hs : ∀ x ∈ l, x.f1.length ≤ 9223372036854775807 ∧ ∀ y ∈ x.f1, y.f2.length ≤ 9223372036854775807) :
    Calls Try.prog 33 #[.slice A n c, .slice B m e, .func (.func 34) #[] #[]] w fun e w' => e = .returned (.bool (decide (l.map ckey = k.map ckey))) ∧ Chg [] w w' := by
  obtain ⟨b, hb⟩ : ∃ b, decide (l.map ckey = k.map ckey) = b := ⟨_, rfl⟩
  rw [hb]
  by_cases hnm : n = m
  · subst hnm
    replace hb := Lib.hid hb
    replace hn := Lib.hid hn
    replace hm := Lib.hid hm
    replace h1 := Lib.hid h1
    replace h2 := Lib.hid h2
    replace hs := Lib.hid hs
    go_enter Try.func33, Try.ntmps33
    go_wp2_with fail
    go_loopg [17] n (fun gk v17 wr => ∃ i : Nat, v17 = .int .i64 i ∧ i ≤ n ∧ gk = n - i ∧ Hid (b = decide ((l.drop i).map ckey = (k.drop i).map ckey)) ∧ Hid (Chg [] w wr))
    case atStart => exact ⟨0, rfl, by omega, by omega, Lib.hid (by rw [← hb.out]; rfl), Lib.hid (Chg.refl _ _)⟩
    case round =>
      obtain ⟨i, rfl, hi, rfl, hR, hC⟩ := hrel
      by_cases hlt : i < n
      · have hl1 : i < l.length := by have := hn.out; omega
        have hl2 : i < k.length := by have := hm.out; omega
        obtain ⟨ad, A2, c2, rfl, q0, q2, qc, qk⟩ := at_T33 h1.out (i : Int) (by omega) (by omega)
        obtain ⟨bd, B2, e2, rfl, r0, r2, rc, rk⟩ := at_T33 h2.out (i : Int) (by omega) (by omega)
        have ea : rd_T33 l (i : Int) = l[i] := by unfold rd_T33; simp [List.getD, hl1]
        have eb : rd_T33 k (i : Int) = k[i] := by unfold rd_T33; simp [List.getD, hl2]
        rw [ea] at q0 q2 qc qk
        rw [eb] at r0 r2 rc rk
        clear ea eb
        simp only [Int.toNat_natCast] at q0 q2 r0 r2
        have hC1 := hC.out
        replace q0 := hC1.cell q0 (by simp)
        replace q2 := hC1.cell q2 (by simp)
        have r0a := fun o => (hC1.alloc o).cell r0 (by simp)
        have r2a := fun o => (hC1.alloc o).cell r2 (by simp)
        have hR2 := hR.out.trans (keys_step ckey hl1 hl2)
        have hsx := hs.out l[i] (List.getElem_mem hl1)
        generalize l[i] = x at q0 q2 qc qk hR2 hsx
        generalize k[i] = y at r0 r2 rc rk r0a r2a hR2
        obtain ⟨xa, xp⟩ := x
        obtain ⟨ya, yp⟩ := y
        simp only at q0 q2 qc qk r0 r2 rc rk r0a r2a hsx
        have hA := (hC1.alloc (.cells #[.int .i64 xa, .slice A2 xp.length c2] 33)).alloc (.cells #[.int .i64 ya, .slice B2 yp.length e2] 33)
        have hcall := s1_any ((wr.alloc (.cells #[.int .i64 xa, .slice A2 xp.length c2] 33)).alloc (.cells #[.int .i64 ya, .slice B2 yp.length e2] 33)) xa ya A2 B2 xp.length yp.length c2 e2 xp yp rfl rfl (Kd.C_below qk hA.below) (Kd.C_below rk hA.below) hsx.1 hsx.2
        obtain ⟨d, hd⟩ : ∃ d, decide (xp.map wkey = yp.map wkey) = d := ⟨_, rfl⟩
        have hd2 : decide (ckey ⟨xa, xp⟩ = ckey ⟨ya, yp⟩) = d := hd
        rw [hd] at hcall
        rw [hd2] at hR2
        obtain ⟨xn, hxn⟩ : ∃ xn, xp.length = xn := ⟨_, rfl⟩
        obtain ⟨yn, hyn⟩ : ∃ yn, yp.length = yn := ⟨_, rfl⟩
        rw [hxn] at q2 hcall hA
        rw [hyn] at r2a hcall hA
        replace hcall := Lib.hid hcall
        replace hA := Lib.hid hA
        replace hR2 := Lib.hid hR2
        clear hR hd hd2 hC1 r0 r2 qc rc qk rk hsx hxn hyn
        go_wp2_with fail
        refine (hcall.out).mono ?_
        rintro e w' ⟨rfl, hC3⟩
        have hC4 := Lib.hid (hA.out.trans hC3)
        clear hC3 hcall hA q0 q2 r0a r2a
        cases d with
        | false =>
          obtain rfl : b = false := by rw [hR2.out]; rfl
          go_wp2_with fail
          (try rw [Exit.noGoto_ret])
          go_ret
          exact ⟨rfl, hC4.out⟩
        | true =>
          have hR3 : Hid (b = decide ((l.drop (i + 1)).map ckey = (k.drop (i + 1)).map ckey)) := Lib.hid (by have := hR2.out; rwa [Bool.true_and] at this)
          go_wp2_with fail
          go_roundg (n - (i + 1))
          case measure => omega
          case rel => exact ⟨i + 1, by go_num, by omega, rfl, hR3, hC4⟩
      · obtain rfl : i = n := by omega
        obtain rfl : b = true := by
          rw [hR.out, List.drop_eq_nil_of_le (by have := hn.out; omega), List.drop_eq_nil_of_le (by have := hm.out; omega)]; rfl
        go_wp2_with fail
        go_ret
        exact ⟨rfl, hC.out⟩
  · have e1 : ((n : Int) != (m : Int)) = true := by simp; omega
    obtain rfl : b = false := by rw [← hb]; exact keys_len ckey (by omega)
    clear hb hn hm h1 h2
    go_enter Try.func33, Try.ntmps33
    go_wp2_with fail
    go_ret
    exact ⟨rfl, Chg.refl _ _⟩
set_option maxRecDepth 100000 in
set_option maxHeartbeats 8000000 in
theorem tsame_any (w : World) (A B : Option Addr) (n m c e : Nat) (l k : List S33) (hn : n = l.length) (hm : m = k.length) (h1 : k33.C w A n l) (h2 : k33.C w B m k) :
    Calls Try.prog 19 #[.slice A n c, .slice B m e] w fun e w' => e = .returned (.bool (decide (l.map ckey = k.map ckey))) ∧ Chg [] w w' := by
  have hf := kd_fine h1
  have heq := Lib.hid (eqc_any w A B n m c e l k hn hm h1 h2 (by rw [hn]; exact hf.1) hf.2)
  clear h1 h2 hn hm hf
  obtain ⟨b, hb⟩ : ∃ b, decide (l.map ckey = k.map ckey) = b := ⟨_, rfl⟩
  rw [hb] at heq ⊢
  clear hb
  go_enter Try.func19, Try.ntmps19
  go_wp2_with fail
  refine (heq.out).mono ?_
  rintro e w' ⟨rfl, hC⟩
  replace hC := Lib.hid hC
  clear heq
  go_wp2_with fail
  go_ret
  exact ⟨rfl, hC.out⟩
end Go.Proofs.Yteodhnblbehenaa
namespace Go.Proofs.Yteodhnblbehenaa
open Go.RowKit Tcl PTclParses YteodhnblbehenaaW.PrintWords
theorem more_len : ∀ (ws : CK) (y : List UInt8), moreK ws = some y → y.length ≤ (ws.map costW).sum := by
  intro ws
  induction ws with
  | nil => intro y h; rw [moreK] at h; cases h; exact Nat.zero_le _
  | cons w r ih =>
    intro y h
    rw [moreK] at h
    split at h
    · cases h
    · rename_i x hx
      split at h
      · cases h
      · rename_i z hz
        cases h
        have h1 := word_len hx
        have h2 := ih z hz
        simp only [List.map_cons, List.sum_cons, costW, List.length_cons, List.length_append] at h2 ⊢
        omega
theorem cmd_len {c : CK} {x : List UInt8} (h : cmdK c = some x) : x.length + 1 ≤ costC c ∧ 5 ≤ costC c := by
  cases c with
  | nil => rw [cmdK] at h; cases h
  | cons w r =>
    rw [cmdK] at h
    split at h
    · cases h
    · rename_i y hy
      split at h
      · cases h
      · rename_i z hz
        cases h
        have h1 := word_len hy
        have h2 := more_len r z hz
        simp only [costC, List.map_cons, List.sum_cons, costW, List.length_append] at h2 ⊢
        omega
theorem single_mem (W : World) (at_ : Int) (A : Option Addr) (c : Nat) (ws : List S38) (hc : ws.length ≤ c) (h : k38.C W A ws.length ws) :
    k33.C (W.alloc (.cells #[.int .i64 at_, .slice A ws.length c] 33)) (some ⟨W.heap.size, 0, none⟩) 1 [⟨at_, ws⟩] := by
  have hA := (Chg.refl [] W).alloc (.cells #[.int .i64 at_, .slice A ws.length c] 33)
  refine kd_of_sl (d := k33) (sl_wide_new W [.int .i64 at_, .slice A ws.length c] 33 2 rfl) rfl [⟨at_, ws⟩] rfl (by decide) (by decide) (fun j y hj => ?_)
  have hj0 : j = 0 := by have := (List.getElem?_eq_some_iff.1 hj).1; simpa using this
  subst hj0
  simp at hj; subst hj
  exact ⟨_, rfl, k33_mk _ ⟨at_, ws⟩ hc (Kd.C_below h hA.below), fun i u hi => by simpa using hi⟩
set_option maxRecDepth 100000 in
set_option maxHeartbeats 16000000 in
theorem tclBlanks_walk (w : World) (A : Option Addr) (c : Nat) (l : List S33) (hlc : l.length ≤ c) (hk : k33.C w A l.length l) (hcost : costL (l.map ckey) ≤ 4194300) (how : UInt8) :
    Calls Try.prog 10 #[.slice A l.length c, .int .u8 how.toNat] w fun e w' => e = .returned (.bool true) ∧ Below w.heap.size w w' := by
  have hfine := kd_fine hk
  obtain ⟨n, hn⟩ : ∃ n, l.length = n := ⟨_, rfl⟩
  rw [hn] at hk hlc ⊢
  have hgr := Lib.hid (fun W (hC : Chg [] w W) => great_any W A n c l hn.symm (by rw [← hn]; exact hfine.1) (Kd.C_below hk hC.below) hfine.2)
  obtain ⟨KS, hKS⟩ : ∃ KS, l.map ckey = KS := ⟨_, rfl⟩
  have hKg : ∀ i (h : i < n), KS[i]? = (l[i]?).map ckey := fun i h => by rw [← hKS, List.getElem?_map]
  have hKl : KS.length = n := by rw [← hKS, List.length_map]; exact hn
  rw [hKS] at hcost
  have hn9 : n ≤ 4194300 := by
    have := sum_len costC (fun a => by unfold costC; omega) KS
    unfold costL at hcost
    omega
  have hw8 : (how.toNat : Int) ≤ 255 := by have := how.toNat_lt; omega
  replace hk := Lib.hid hk
  replace hn := Lib.hid hn
  replace hKg := Lib.hid hKg
  replace hKl := Lib.hid hKl
  replace hcost := Lib.hid hcost
  clear hfine hKS
  go_enter Try.func10, Try.ntmps10
  go_wp2_with fail
  refine (alive_any _).mono ?_
  rintro e w1 ⟨rfl, hC⟩
  replace hC := Lib.hid hC
  go_wp2_with fail
  refine (hgr.out w1 hC.out).mono ?_
  rintro e w2 ⟨⟨b, rfl⟩, hC1⟩
  replace hC := Lib.hid (hC.out.trans hC1)
  clear hC1 hgr
  cases b with
  | true =>
    go_wp2_with fail
    refine (alive_any _).mono ?_
    rintro e w3 ⟨rfl, hC1⟩
    replace hC := Lib.hid (hC.out.trans hC1)
    clear hC1
    go_wp2_with fail
    go_ret
    exact ⟨rfl, hC.out.below⟩
  | false =>
    go_upto_block 0 with (fail)
    go_wp2
    go_loopg [5, 6, 26] n (fun gk v5 v6 v26 wr => ∃ (i : Nat) (S T : List UInt8) (ZS ZT : ByteArray), v5 = .string ZS ∧ v6 = .string ZT ∧ v26 = .int .i64 i ∧ i ≤ n ∧ gk = n - i ∧ Hid (ZS = bstr S) ∧ Hid (ZT = bstr T) ∧ ZS.size ≤ costL (KS.take i) ∧ ZT.size ≤ 4 * costL (KS.take i) ∧ Hid (Written (KS.take i) S T) ∧ Hid (Chg [] w wr))
    case atStart => exact ⟨0, [], [], _, _, rfl, rfl, rfl, by omega, by omega, Lib.hid rfl, Lib.hid rfl, Nat.zero_le _, Nat.zero_le _, Lib.hid written_nil, hC⟩
    case round =>
      obtain ⟨i, S, T, ZS, ZT, rfl, rfl, rfl, hi, rfl, hZS, hZT, hS9, hT9, hWr, hC2⟩ := hrel
      clear hC
      have hct := sum_take costC KS i
      have hco := hcost.out
      unfold costL at hS9 hT9 hco
      by_cases hlt : i < n
      · have hil : i < l.length := by have := hn.out; omega
        obtain ⟨ad, A1, c1, rfl, q1, q2, hc1, hk1⟩ := at_T33 hk.out (i : Int) (by omega) (by omega)
        replace q1 := hC2.out.cell q1 (by simp)
        replace q2 := hC2.out.cell q2 (by simp)
        have er : rd_T33 l (i : Int) = l[i] := by unfold rd_T33; simp [List.getD, hil]
        rw [er] at q1 q2 hc1 hk1
        clear er
        simp only [Int.toNat_natCast] at q1 q2
        have hCi : KS[i]? = some (ckey l[i]) := by rw [hKg.out i hlt, List.getElem?_eq_getElem hil]; rfl
        generalize l[i] = cm at q1 q2 hc1 hk1 hCi
        obtain ⟨at_, ws⟩ := cm
        simp only at q1 q2 hc1 hk1
        obtain ⟨C, hCk⟩ : ∃ C, ckey ⟨at_, ws⟩ = C := ⟨_, rfl⟩
        rw [hCk] at hCi
        have hcg := sum_get costC hCi
        have hct2 := sum_take costC KS (i + 1)
        have htk : KS.take (i + 1) = KS.take i ++ [C] := by rw [List.take_add_one, hCi]; rfl
        have hA6 := (hC2.out.alloc (.cells #[.int .i64 at_, .slice A1 ws.length c1] 33))
        have hsm := single_mem (wr.alloc (.cells #[.int .i64 at_, .slice A1 ws.length c1] 33)) at_ A1 c1 ws hc1 (Kd.C_below hk1 hA6.below)
        rw [show (wr.alloc (.cells #[.int .i64 at_, .slice A1 ws.length c1] 33)).heap.size = wr.heap.size + 1 from Array.size_push ..] at hsm
        have hA7 := hA6.alloc (.cells #[.int .i64 at_, .slice A1 ws.length c1] 33)
        have hpr := print_any _ (some ⟨wr.heap.size + 1, 0, none⟩) 1 1 [⟨at_, ws⟩] rfl hsm (by
          show costL [ckey ⟨at_, ws⟩] ≤ _
          rw [hCk]
          simp only [costL, List.map_cons, List.map_nil, List.sum_cons, List.sum_nil]; omega)
        have hk1' : [(⟨at_, ws⟩ : S33)].map ckey = [C] := by rw [← hCk]; rfl
        rw [hk1'] at hpr
        unfold PrEnd at hpr
        obtain ⟨m, hm⟩ : ∃ m, ws.length = m := ⟨_, rfl⟩
        rw [hm] at q2 hpr hA7
        replace hpr := Lib.hid hpr
        replace hA7 := Lib.hid hA7
        replace hCi := Lib.hid hCi
        replace htk := Lib.hid htk
        clear hA6 hsm hk1' hC2 hc1 hk1 hCk hm
        go_wp2_with fail
        refine (hpr.out).mono ?_
        rintro e w8 ⟨hC8, hcase⟩
        have hC9 := Lib.hid (hA7.out.trans hC8)
        clear hpr hA7 hC8 q1 q2
        rcases hcase with ⟨p, hp, hpl, rfl⟩ | ⟨hnone, rfl⟩
        rotate_left
        · clear hnone
          go_wp2_with fail
          (try rw [Exit.noGoto_ret])
          go_ret
          exact ⟨rfl, hC9.out.below⟩
        obtain ⟨x, hx, rfl⟩ : ∃ x, cmdK C = some x ∧ p = x ++ [10] := by
          rw [printK] at hp
          split at hp
          · cases hp
          · rename_i x hx
            rw [printK] at hp
            simp only at hp
            cases hp
            exact ⟨x, hx, rfl⟩
        obtain ⟨hxl, hc5⟩ := cmd_len hx
        obtain ⟨P, hP⟩ : ∃ P, bstr (x ++ [10]) = P := ⟨_, rfl⟩
        have hPs : P.size = x.length + 1 := by rw [← hP]; show (x ++ [10]).length = _; simp
        rw [hP]
        have hcat1 : ¬ (9223372036854775807 < ZS.size + P.size) := by omega
        have hZS2 : ZS ++ P = bstr (S ++ (x ++ [10])) := by
          rw [← hP, hZS.out]
          apply ByteArray.ext
          apply Array.ext'
          simp [bstr]
        obtain ⟨Z2, hZ2⟩ : ∃ Z2, ZS ++ P = Z2 := ⟨_, rfl⟩
        have hZ2s : Z2.size = ZS.size + P.size := by rw [← hZ2, ByteArray.size_append]
        have hZS3 := Lib.hid (hZ2.symm.trans hZS2)
        have hw2 := fun z => written_snoc hWr.out hx z
        rw [← htk.out] at hw2
        replace hw2 := Lib.hid hw2
        have hrel : Hid (∀ (z : Int) (Z3 : ByteArray) wx, Z3 = bstr (T ++ form z x) → Chg [] w wx → ∃ (i' : Nat) (S' T' : List UInt8) (ZS' ZT' : ByteArray), Value.string Z2 = .string ZS' ∧ Value.string Z3 = .string ZT' ∧ Value.int .i64 ((i : Int) + 1) = .int .i64 i' ∧ i' ≤ n ∧ n - (i + 1) = n - i' ∧ Hid (ZS' = bstr S') ∧ Hid (ZT' = bstr T') ∧ ZS'.size ≤ costL (KS.take i') ∧ ZT'.size ≤ 4 * costL (KS.take i') ∧ Hid (Written (KS.take i') S' T') ∧ Hid (Chg [] w wx)) := Lib.hid (fun z Z3 wx hZ3 hCx => by
          refine ⟨i + 1, S ++ (x ++ [10]), T ++ form z x, Z2, Z3, rfl, rfl, rfl, by omega, rfl, hZS3, Lib.hid hZ3, ?_, ?_, Lib.hid (hw2.out z), Lib.hid hCx⟩
          · unfold costL; omega
          · have h1 : Z3.size = T.length + (form z x).length := by rw [hZ3]; show (T ++ form z x).length = _; rw [List.length_append]
            have h2 : ZT.size = T.length := by rw [hZT.out]; rfl
            have h3 := form_len z x
            unfold costL; omega)
        have hZTb := Lib.hid hZT.out
        have hPb := Lib.hid hP.symm
        have hbP : P.size ≤ 4194301 := by omega
        have hbS : ZS.size ≤ 4194301 := by omega
        have hbT : ZT.size ≤ 16777216 := by omega
        clear hZS2 hw2 hx hp hpl hP hct hct2 hWr hZS3
        go_upto_region 11 with fail
        go_cut [46] (fun v46 wx => ∃ z : Int, v46 = .int .i64 z ∧ wx = w8)
        case first =>
          go_wp2_with fail
          go_meet
          exact ⟨_, rfl, rfl⟩
        case rest =>
        obtain ⟨z, rfl, hwc⟩ := hcut
        rw [hwc]
        clear hwc wc
        by_cases z0 : z = 0
        · subst z0
          have k1 : ¬ (9223372036854775807 < (⟨#[32, 32, 9]⟩ : ByteArray).size + P.size) := by show ¬ (_ < 3 + _); omega
          have k1b : ¬ (9223372036854775807 < 3 + P.size) := by omega
          have k2 : ¬ (9223372036854775807 < ((⟨#[32, 32, 9]⟩ : ByteArray) ++ P).size + (⟨#[10, 59, 59, 10]⟩ : ByteArray).size) := by rw [ByteArray.size_append]; show ¬ (_ < 3 + _ + 4); omega
          have k2b : ¬ (9223372036854775807 < 3 + P.size + 4) := by omega
          have k3 : ¬ (9223372036854775807 < ZT.size + ((⟨#[32, 32, 9]⟩ : ByteArray) ++ P ++ (⟨#[10, 59, 59, 10]⟩ : ByteArray)).size) := by
            rw [ByteArray.size_append, ByteArray.size_append]; show ¬ (_ < _ + (3 + _ + 4)); omega
          have k3b : ¬ (9223372036854775807 < ZT.size + (3 + P.size + 4)) := by omega
          have hZ3 : ZT ++ ((⟨#[32, 32, 9]⟩ : ByteArray) ++ P ++ (⟨#[10, 59, 59, 10]⟩ : ByteArray)) = bstr (T ++ form 0 x) := by
            rw [hPb.out, hZTb.out]
            apply ByteArray.ext
            apply Array.ext'
            rw [show form 0 x = [32, 32, 9] ++ (x ++ [10]) ++ [10, 59, 59, 10] from rfl]
            simp [bstr]
          have hfin := Lib.hid (hrel.out 0 _ w8 hZ3 hC9.out)
          clear hrel hZ3 hZTb hPb
          go_wp2_with fail
          go_roundg (n - (i + 1))
          case measure => omega
          case rel => exact hfin.out
        have f0 : (z == 0) = false := by rw [beq_eq_false_iff_ne]; exact z0
        by_cases z1 : z = 1
        · subst z1
          have k1 : ¬ (9223372036854775807 < (⟨#[35, 32, 115, 101, 110, 100, 32, 123, 34, 91, 10]⟩ : ByteArray).size + P.size) := by show ¬ (_ < 11 + _); omega
          have k1b : ¬ (9223372036854775807 < 11 + P.size) := by omega
          have k3 : ¬ (9223372036854775807 < ZT.size + ((⟨#[35, 32, 115, 101, 110, 100, 32, 123, 34, 91, 10]⟩ : ByteArray) ++ P).size) := by
            rw [ByteArray.size_append]; show ¬ (_ < _ + (11 + _)); omega
          have k3b : ¬ (9223372036854775807 < ZT.size + (11 + P.size)) := by omega
          have hZ3 : ZT ++ ((⟨#[35, 32, 115, 101, 110, 100, 32, 123, 34, 91, 10]⟩ : ByteArray) ++ P) = bstr (T ++ form 1 x) := by
            rw [hPb.out, hZTb.out]
            apply ByteArray.ext
            apply Array.ext'
            rw [show form 1 x = [35, 32, 115, 101, 110, 100, 32, 123, 34, 91, 10] ++ (x ++ [10]) from rfl]
            simp [bstr]
          have hfin := Lib.hid (hrel.out 1 _ w8 hZ3 hC9.out)
          clear hrel hZ3 hZTb hPb
          go_wp2_with fail
          go_roundg (n - (i + 1))
          case measure => omega
          case rel => exact hfin.out
        have f1 : (z == 1) = false := by rw [beq_eq_false_iff_ne]; exact z1
        by_cases z2 : z = 2
        · subst z2
          have ew : IntKind.i64.wrap ((P.size : Int) - 1) = (x.length : Int) := by rw [IntWalk.i64_in _ (by omega)]; omega
          have hr1 : 0 ≤ (x.length : Int) ∧ (x.length : Int) ≤ (P.size : Int) := by omega
          have hr2 : x.length ≤ P.size := by omega
          have hX : P.extract 0 x.length = bstr x := by
            rw [hPb.out, extract_bstr]
            unfold sub
            rw [List.take_left, List.drop_zero]
          have hbx : (bstr x).size = x.length := rfl
          have k1 : ¬ (9223372036854775807 < (bstr x).size + (⟨#[9, 32, 59]⟩ : ByteArray).size) := by show ¬ (_ < x.length + 3); omega
          have k2 : ¬ (9223372036854775807 < ZT.size + (bstr x ++ (⟨#[9, 32, 59]⟩ : ByteArray)).size) := by rw [ByteArray.size_append]; show ¬ (_ < _ + (x.length + 3)); omega
          have hZ3 : ZT ++ (bstr x ++ (⟨#[9, 32, 59]⟩ : ByteArray)) = bstr (T ++ form 2 x) := by
            rw [hZTb.out]
            apply ByteArray.ext
            apply Array.ext'
            rw [show form 2 x = x ++ [9, 32, 59] from rfl]
            simp [bstr]
          have hfin := Lib.hid (hrel.out 2 _ w8 hZ3 hC9.out)
          clear hrel hZ3 hZTb hPb
          go_wp2_with fail
          go_roundg (n - (i + 1))
          case measure => omega
          case rel => exact hfin.out
        · have f2 : (z == 2) = false := by rw [beq_eq_false_iff_ne]; exact z2
          have k1 : ¬ (9223372036854775807 < (⟨#[59]⟩ : ByteArray).size + P.size) := by show ¬ (_ < 1 + _); omega
          have k1b : ¬ (9223372036854775807 < 1 + P.size) := by omega
          have k2 : ¬ (9223372036854775807 < ((⟨#[59]⟩ : ByteArray) ++ P).size + (⟨#[32, 9, 10]⟩ : ByteArray).size) := by rw [ByteArray.size_append]; show ¬ (_ < 1 + _ + 3); omega
          have k2b : ¬ (9223372036854775807 < 1 + P.size + 3) := by omega
          have k3 : ¬ (9223372036854775807 < ZT.size + ((⟨#[59]⟩ : ByteArray) ++ P ++ (⟨#[32, 9, 10]⟩ : ByteArray)).size) := by
            rw [ByteArray.size_append, ByteArray.size_append]; show ¬ (_ < _ + (1 + _ + 3)); omega
          have k3b : ¬ (9223372036854775807 < ZT.size + (1 + P.size + 3)) := by omega
          have hZ3 : ZT ++ ((⟨#[59]⟩ : ByteArray) ++ P ++ (⟨#[32, 9, 10]⟩ : ByteArray)) = bstr (T ++ form z x) := by
            rw [hPb.out, hZTb.out]
            apply ByteArray.ext
            apply Array.ext'
            rw [show form z x = [59] ++ (x ++ [10]) ++ [32, 9, 10] by unfold form; rw [if_neg z0, if_neg z1, if_neg z2]]
            simp [bstr]
          have hfin := Lib.hid (hrel.out z _ w8 hZ3 hC9.out)
          clear hrel hZ3 hZTb hPb
          go_wp2_with fail
          go_roundg (n - (i + 1))
          case measure => omega
          case rel => exact hfin.out
      · obtain rfl : i = n := by omega
        have hWr2 := hWr.out
        rw [List.take_of_length_le (by rw [hKl.out]; exact Nat.le_refl _)] at hWr2
        have hSl : S.length ≤ 16777216 := by have : ZS.size = S.length := by rw [hZS.out]; rfl
                                             omega
        have hTl : T.length ≤ 16777216 := by have : ZT.size = T.length := by rw [hZT.out]; rfl
                                             omega
        obtain ⟨⟨a, ha, hak⟩, ⟨b, hb, hbk⟩⟩ := written_parse hWr2 hSl hTl
        have p1 := Lib.hid (fun W => parse_any W S (by omega))
        have p2 := Lib.hid (fun W => parse_any W T (by omega))
        rw [← hZS.out] at p1
        rw [← hZT.out] at p2
        have hla : a.length = i := by
          have := congrArg List.length hak
          rw [List.length_map] at this
          rw [this]; exact hKl.out
        replace ha := Lib.hid ha
        replace hb := Lib.hid hb
        have hkk := Lib.hid (hak.trans hbk.symm)
        clear hWr hWr2 hak hbk hSl hTl hS9 hT9 hct hco hZS hZT
        go_wp2_with fail
        refine (p1.out _).mono ?_
        rintro e w3 h3
        obtain ⟨hC3, A3, n3, c3, xs3, rfl, hn3, hS3, hX3, -⟩ := parse_ok h3 ha.out
        have K3 := Lib.hid (kcmds hS3 hX3 hn3)
        have hn3' : n3 = i := by rw [hn3]; exact hla
        replace hn3 := Lib.hid hn3
        have hC4 := Lib.hid (hC2.out.trans hC3)
        clear h3 hC3 hS3 hX3 p1
        go_wp2_with fail
        refine (p2.out _).mono ?_
        rintro e w5 h5
        obtain ⟨hC5, A5, n5, c5, xs5, rfl, hn5, hS5, hX5, -⟩ := parse_ok h5 hb.out
        have K5 := Lib.hid (kcmds hS5 hX5 hn5)
        have hC6 := Lib.hid (hC4.out.trans hC5)
        have hsa := tsame_any w5 A3 A5 n3 n5 c3 c5 (a.map kcmd) (b.map kcmd) (by rw [List.length_map]; exact hn3.out) (by rw [List.length_map]; exact hn5) (Kd.C_below K3.out hC5.below) K5.out
        have hdec : decide ((a.map kcmd).map ckey = (b.map kcmd).map ckey) = true := by
          apply decide_eq_true
          rw [ckeys_kcmd, ckeys_kcmd, hkk.out]
        rw [hdec] at hsa
        replace hsa := Lib.hid hsa
        replace hn5 := Lib.hid hn5
        clear h5 hC5 hS5 hX5 p2 hdec K3 K5
        subst hn3'
        go_wp2_with fail
        refine (hsa.out).mono ?_
        rintro e w7 ⟨rfl, hC7⟩
        have hC8 := Lib.hid (hC6.out.trans hC7)
        clear hC7 hsa
        go_wp2_with fail
        go_ret
        exact ⟨rfl, hC8.out.below⟩
theorem tclBlanks_row (v0 : Value) (d0 : Dt) (v1 : Value) (d1 : Dt) (w : World) (h0 : Reads w (.sl [.int .i64, .sl [.int .i64, .int .i64, .sl [.bool, .str]]]) v0 d0) (hb0 : bulkD d0 ≤ 1048576) (h1 : Reads w (.int .u8) v1 d1) :
    Calls Try.prog 10 #[v0, v1] w fun e w' => e = .returned (.bool true) ∧ Below w.heap.size w w' := by
  obtain ⟨A, c, ys, rfl, hlc, -, hk, hcost⟩ := cmds_of_reads h0
  obtain ⟨b, rfl⟩ := u8_of_reads h1
  exact tclBlanks_walk w A c ys hlc hk (by omega) b
end Go.Proofs.Yteodhnblbehenaa
