/- TclErr, TclPrP, TclGreat, TclPr4, ReadsB, KdReads, TclSm, RPr1, RPr2, RPr3, RPr4, LPrints: texts of mine, joined. Conditions: as they state. -/
import Derived.Test.YteodhnblbehenaaTclEqs
import Derived.Test.YteodhnblbehenaaTclBackK
import Derived.Test.YteodhnblbehenaaTclKd
import Derived.Deep.Cut
import Derived.Deep.CutBlock
import Derived.Deep.DeepCutAuto
import Derived.Deep.LoopGhost
import Derived.IntWalk
import Derived.Test.YteodhnblbehenaaPrB
import Derived.Test.YteodhnblbehenaaReads
import Derived.Test.YteodhnblbehenaaRows
import Derived.Test.YteodhnblbehenaaTclU8
import Derived.Test.YteodhnblbehenaaTclPrK
import Derived.Test.YteodhnblbehenaaRefA
import Derived.StillTailTactics
import Derived.Test.YteodhnblbehenaaTclAlive
set_option linter.unusedVariables false
set_option linter.unusedSimpArgs false
namespace Go.Proofs.Yteodhnblbehenaa
namespace Tcl
theorem braced_err (s : List UInt8) (f : Nat) (hf : f ≤ s.length) : ∀ (k i d : Nat) (b : Bad), s.length - i ≤ k → braced s f i d = .error b → b.1 ≤ s.length := by
  intro k
  induction k with
  | zero =>
    intro i d b hk h
    rw [braced_none (List.getElem?_eq_none (by omega))] at h; cases h; exact hf
  | succ k ih =>
    intro i d b hk h
    cases hc : s[i]? with
    | none => rw [braced_none hc] at h; cases h; exact hf
    | some c =>
      have hl := lt_of_some hc
      rw [braced_some hc] at h
      split at h
      · exact ih _ _ _ (by omega) h
      · split at h
        · split at h
          · cases h; exact Nat.le_of_lt hl
          · exact ih _ _ _ (by omega) h
        · split at h
          · split at h
            · exact ih _ _ _ (by omega) h
            · cases h
          · exact ih _ _ _ (by omega) h
theorem parts_err (stop : UInt8 → Bool) (s : List UInt8) (f : Option Nat) (hf : ∀ x, f = some x → x ≤ s.length) : ∀ (k i : Nat) (l : List Part) (t : List UInt8) (b : Bad), s.length - i ≤ k → partsGo stop s f i l t = .error b → b.1 ≤ s.length := by
  intro k
  induction k with
  | zero =>
    intro i l t b hk h
    rw [parts_none (List.getElem?_eq_none (by omega))] at h; cases h
  | succ k ih =>
    intro i l t b hk h
    cases hc : s[i]? with
    | none => rw [parts_none hc] at h; cases h
    | some c =>
      have hl := lt_of_some hc
      rw [parts_some hc] at h
      split at h
      · cases h
      · split at h
        · cases h; exact Nat.le_of_lt hl
        · split at h
          · split at h
            · cases h
              cases f with
              | none => exact Nat.le_of_lt hl
              | some x => exact hf x rfl
            · split at h
              · exact ih _ _ _ _ (by omega) h
              · cases h; exact Nat.zero_le _
          · split at h
            · split at h
              · cases h; exact Nat.le_of_lt hl
              · split at h
                · exact ih _ _ _ _ (by omega) h
                · exact ih _ _ _ _ (by omega) h
            · exact ih _ _ _ _ (by omega) h
theorem behind_err {s : List UInt8} {j : Nat} {b : Bad} (h : behind s j = .error b) : b.1 ≤ s.length := by
  unfold behind at h
  split at h
  · rename_i c hc
    have := lt_of_some hc
    split at h
    · cases h
    · cases h; exact Nat.le_of_lt this
  · cases h
theorem word_err {s : List UInt8} {i : Nat} {c : UInt8} {b : Bad} (hi : i < s.length) (h : word s i c = .error b) : b.1 ≤ s.length := by
  unfold word at h
  split at h
  · split at h
    · rename_i b' hb
      cases h
      exact braced_err s i (Nat.le_of_lt hi) _ _ _ _ (Nat.le_refl _) hb
    · split at h
      · rename_i b' hb; cases h; exact behind_err hb
      · cases h
  · split at h
    · split at h
      · rename_i b' hb
        cases h
        exact parts_err _ s _ (fun x hx => by cases hx; exact Nat.le_of_lt hi) _ _ _ _ _ (Nat.le_refl _) hb
      · split at h
        · cases h; exact Nat.le_of_lt hi
        · split at h
          · rename_i b' hb; cases h; exact behind_err hb
          · cases h
    · split at h
      · rename_i b' hb
        cases h
        exact parts_err _ s _ (fun x hx => by cases hx) _ _ _ _ _ (Nat.le_refl _) hb
      · cases h
theorem command_err (s : List UInt8) : ∀ (k i : Nat) (ws : List Word) (b : Bad), s.length - i ≤ k → command s i ws = .error b → b.1 ≤ s.length := by
  intro k
  induction k with
  | zero =>
    intro i ws b hk h
    rw [command_none (List.getElem?_eq_none (by omega))] at h; cases h
  | succ k ih =>
    intro i ws b hk h
    cases hc : s[i]? with
    | none => rw [command_none hc] at h; cases h
    | some c =>
      have hl := lt_of_some hc
      rw [command_some hc] at h
      split at h
      · cases h
      · split at h
        · exact ih _ _ _ (by omega) h
        · split at h
          · rename_i b' hb; cases h; exact word_err hl hb
          · split at h
            · exact ih _ _ _ (by omega) h
            · cases h; exact Nat.zero_le _
theorem parseGo_err (s : List UInt8) : ∀ (k i : Nat) (l : List Cmd) (b : Bad), s.length - i ≤ k → parseGo s i l = .error b → b.1 ≤ s.length := by
  intro k
  induction k with
  | zero =>
    intro i l b hk h
    rw [parse_none (List.getElem?_eq_none (by omega))] at h; cases h
  | succ k ih =>
    intro i l b hk h
    cases hc : s[i]? with
    | none => rw [parse_none hc] at h; cases h
    | some c =>
      have hl := lt_of_some hc
      rw [parse_some hc] at h
      split at h
      · exact ih _ _ _ (by omega) h
      · split at h
        · split at h
          · exact ih _ _ _ (by omega) h
          · cases h; exact Nat.zero_le _
        · split at h
          · rename_i b' hb; cases h; exact command_err s _ _ _ _ (Nat.le_refl _) hb
          · split at h
            · exact ih _ _ _ (by omega) h
            · cases h; exact Nat.zero_le _
/-- An error's place is in the text. -/
theorem parse_err {s : List UInt8} {b : Bad} (h : parse s = .error b) : b.1 ≤ s.length := by
  unfold parse at h
  split at h
  · cases h; exact Nat.zero_le _
  · exact parseGo_err s _ _ _ _ (Nat.le_refl _) h
end Tcl
end Go.Proofs.Yteodhnblbehenaa
namespace Go.Proofs.Yteodhnblbehenaa
namespace Tcl
def cost1 (ps : List PK) : Nat := (ps.map fun p => 4 * p.2.length + 1).sum
theorem cost1_append (a b : List PK) : cost1 (a ++ b) = cost1 a + cost1 b := by unfold cost1; rw [List.map_append, List.sum_append]
/-- A part that can be printed. -/
def FineP (p : PK) : Prop := p.2 ≠ [] ∧ (p.1 = true → p.2.length ≤ 64 ∧ p.2.all nameB = true)
/-- Parts that can be printed, behind `prev`. -/
def Alt : Option Bool → List PK → Prop
  | _, [] => True
  | prev, p :: r => FineP p ∧ (p.1 = false → prev ≠ some false) ∧ Alt (some p.1) r
theorem alt_some {kd : Int} (hk : kd ≠ 2) : ∀ (ps : List PK) (prev : Option Bool), Alt prev ps → ∃ x, partsK kd prev ps = some x := by
  intro ps
  induction ps with
  | nil => intro prev _; exact ⟨[], rfl⟩
  | cons p r ih =>
    rintro prev ⟨⟨h1, h2⟩, h3, h4⟩
    obtain ⟨y, hy⟩ := ih _ h4
    obtain ⟨pv, u⟩ := p
    simp only at h1 h2 h3 h4 hy
    have hp : ∃ x, partK kd prev (pv, u) = some x := by
      unfold partK
      cases pv with
      | true =>
        obtain ⟨a, b⟩ := h2 rfl
        rw [if_pos rfl, if_neg (by rintro (h | h | h | h); exact hk h; exact h1 h; exact Nat.not_lt.2 a h; (rw [b] at h; cases h))]
        exact ⟨_, rfl⟩
      | false =>
        rw [if_neg (by simp), if_neg (by rintro (h | h | h); exact h1 h; exact h3 rfl h; exact hk h.1), if_neg hk]
        exact ⟨_, rfl⟩
    obtain ⟨x, hx⟩ := hp
    exact ⟨x ++ y, by rw [partsK, hx]; simp only; rw [hy]⟩
theorem alt_snoc {p : PK} : ∀ (ps : List PK) (prev : Option Bool), Alt prev ps → FineP p → (p.1 = false → ∀ q, (ps.getLast?.map (·.1)).or prev = some q → q = true) → Alt prev (ps ++ [p]) := by
  intro ps
  induction ps with
  | nil =>
    intro prev _ hf hl
    refine ⟨hf, fun h e => ?_, trivial⟩
    have := hl h false (by simp [e])
    cases this
  | cons q r ih =>
    rintro prev ⟨h1, h2, h3⟩ hf hl
    refine ⟨h1, h2, ih _ h3 hf fun h b hb => hl h b ?_⟩
    cases r with
    | nil => simpa using hb
    | cons a r =>
      rw [List.getLast?_cons_cons]
      have : ((a :: r).getLast?.map (·.1)) ≠ none := by simp
      cases hx : (a :: r).getLast?.map (·.1) with
      | none => exact absurd hx this
      | some z => rw [hx] at hb; simpa using hb
def keys (l : List Part) : List PK := l.map pkeyP
/-- No text stands last. -/
def OpenL (l : List Part) : Prop := ∀ p, l.getLast? = some p → p.var = true
theorem flush_alt {l : List Part} {t : List UInt8} (ha : Alt none (keys l)) (ho : OpenL l) : Alt none (keys (flush l t)) := by
  unfold flush
  split
  · exact ha
  · rename_i ht
    unfold keys
    rw [List.map_append]
    refine alt_snoc _ _ ha ⟨ht, fun h => by cases h⟩ fun _ q hq => ?_
    rw [Option.or_none, List.getLast?_map, Option.map_map] at hq
    cases h : l.getLast? with
    | none => rw [h] at hq; cases hq
    | some p =>
      rw [h] at hq
      have := ho p h
      cases hq
      exact this
theorem flush_cost (l : List Part) (t : List UInt8) : cost1 (keys (flush l t)) ≤ cost1 (keys l) + 4 * t.length + (if t = [] then 0 else 1) := by
  unfold flush keys
  split
  · rename_i h; subst h; simp
  · rw [List.map_append, cost1_append]
    simp [cost1, pkeyP]; omega
theorem name_all : ∀ (l : List UInt8), (l.take (nameLen l)).all nameB = true := by
  intro l
  induction l with
  | nil => rfl
  | cons c r ih =>
    rw [nameLen]
    split
    · rename_i h; rw [List.take_succ_cons]; simp [h, ih]
    · rfl
def w5 (l : List Part) (t : List UInt8) : Nat := cost1 (keys l) + 5 * t.length
theorem parts_fine (stop : UInt8 → Bool) (s : List UInt8) (f : Option Nat) : ∀ (k i : Nat) (l : List Part) (t : List UInt8) (r : List Part) (j : Nat), s.length - i ≤ k → Alt none (keys l) → OpenL l → partsGo stop s f i l t = .ok (r, j) →
    Alt none (keys r) ∧ cost1 (keys r) ≤ w5 l t + 5 * (j - i) ∧ i ≤ j ∧ (flush l t ≠ [] → r ≠ []) := by
  intro k
  induction k with
  | zero =>
    intro i l t r j hk ha ho h
    rw [parts_none (List.getElem?_eq_none (by omega))] at h
    cases h
    refine ⟨flush_alt ha ho, ?_, Nat.le_refl _, id⟩
    have := flush_cost l t
    unfold w5
    split at this
    · omega
    · rename_i hne
      have : t.length ≠ 0 := fun e => hne (List.eq_nil_of_length_eq_zero e)
      omega
  | succ k ih =>
    intro i l t r j hk ha ho h
    have hfin : (flush l t, i) = (r, j) → Alt none (keys r) ∧ cost1 (keys r) ≤ w5 l t + 5 * (j - i) ∧ i ≤ j ∧ (flush l t ≠ [] → r ≠ []) := fun e => by
      cases e
      refine ⟨flush_alt ha ho, ?_, Nat.le_refl _, id⟩
      have := flush_cost l t
      unfold w5
      split at this
      · omega
      · rename_i hne
        have : t.length ≠ 0 := fun e => hne (List.eq_nil_of_length_eq_zero e)
        omega
    have hadd : ∀ c i', i < i' → partsGo stop s f i' l (t ++ [c]) = .ok (r, j) → Alt none (keys r) ∧ cost1 (keys r) ≤ w5 l t + 5 * (j - i) ∧ i ≤ j ∧ (flush l t ≠ [] → r ≠ []) := fun c i' hi h => by
      obtain ⟨h1, h2, h3, h4⟩ := ih i' l (t ++ [c]) r j (by omega) ha ho h
      refine ⟨h1, ?_, by omega, fun _ => h4 ?_⟩
      · unfold w5 at h2 ⊢; rw [List.length_append] at h2; simp at h2; omega
      · unfold flush; rw [if_neg (by simp)]; simp
    cases hc : s[i]? with
    | none => rw [parts_none hc] at h; exact hfin (by cases h; rfl)
    | some c =>
      have hl := lt_of_some hc
      rw [parts_some hc] at h
      split at h
      · exact hfin (by cases h; rfl)
      · split at h
        · cases h
        · split at h
          · split at h
            · cases h
            · rename_i x j' he
              split at h
              · rename_i hij; exact hadd _ _ hij h
              · cases h
          · split at h
            · split at h
              · cases h
              · rename_i h64
                split at h
                · exact hadd _ _ (by omega) h
                · rename_i hn0
                  have hn := nameLen_le (s.drop (i + 1))
                  rw [List.length_drop] at hn
                  have hf : FineP (true, (s.drop (i + 1)).take (nameLen (s.drop (i + 1)))) := by
                    refine ⟨fun e => ?_, fun _ => ⟨by rw [List.length_take]; omega, name_all _⟩⟩
                    have e2 : (s.drop (i + 1)).take (nameLen (s.drop (i + 1))) = [] := e
                    have : ((s.drop (i + 1)).take (nameLen (s.drop (i + 1)))).length = 0 := by rw [e2]; rfl
                    rw [List.length_take, List.length_drop] at this
                    omega
                  have ha2 : Alt none (keys (flush l t ++ [⟨true, (s.drop (i + 1)).take (nameLen (s.drop (i + 1)))⟩])) := by
                    unfold keys
                    rw [List.map_append]
                    exact alt_snoc _ _ (flush_alt ha ho) hf (fun h => by cases h)
                  have ho2 : OpenL (flush l t ++ [⟨true, (s.drop (i + 1)).take (nameLen (s.drop (i + 1)))⟩]) := fun p hp => by
                    rw [List.getLast?_append] at hp; simp at hp; rw [← hp]
                  obtain ⟨h1, h2, h3, h4⟩ := ih _ _ _ r j (by omega) ha2 ho2 h
                  refine ⟨h1, ?_, by omega, fun _ => h4 (by unfold flush; simp)⟩
                  have hfc := flush_cost l t
                  have hcc : cost1 (keys (flush l t ++ [⟨true, (s.drop (i + 1)).take (nameLen (s.drop (i + 1)))⟩])) = cost1 (keys (flush l t)) + (4 * (nameLen (s.drop (i + 1))) + 1) := by
                    have e1 : cost1 (keys [(⟨true, (s.drop (i + 1)).take (nameLen (s.drop (i + 1)))⟩ : Part)]) = 4 * (nameLen (s.drop (i + 1))) + 1 := by
                      show (4 * ((s.drop (i + 1)).take (nameLen (s.drop (i + 1)))).length + 1) + 0 = _
                      rw [List.length_take, List.length_drop, Nat.min_eq_left hn]
                    unfold keys at e1 ⊢
                    rw [List.map_append, cost1_append, e1]
                  unfold w5 at h2 ⊢
                  rw [hcc] at h2
                  simp only [List.length_nil] at h2
                  split at hfc
                  · omega
                  · rename_i hne
                    have : t.length ≠ 0 := fun e => hne (List.eq_nil_of_length_eq_zero e)
                    omega
            · exact hadd _ _ (by omega) h
theorem braced_end (s : List UInt8) (f : Nat) : ∀ (k i d j : Nat), s.length - i ≤ k → braced s f i d = .ok j → s[j - 1]? = some 125 := by
  intro k
  induction k with
  | zero =>
    intro i d j hk h
    rw [braced_none (List.getElem?_eq_none (by omega))] at h; cases h
  | succ k ih =>
    intro i d j hk h
    cases hc : s[i]? with
    | none => rw [braced_none hc] at h; cases h
    | some c =>
      have hl := lt_of_some hc
      rw [braced_some hc] at h
      split at h
      · exact ih _ _ _ (by omega) h
      · split at h
        · split at h
          · cases h
          · exact ih _ _ _ (by omega) h
        · split at h
          · rename_i h3
            split at h
            · exact ih _ _ _ (by omega) h
            · cases h; subst h3; exact hc
          · exact ih _ _ _ (by omega) h
def c4 (w : Word) : Nat := cost1 (wkeyP w).2 + 4
def Prt (w : Word) : Prop := ∃ x, wordK (wkeyP w) = some x
theorem word_fine {s : List UInt8} {i : Nat} {c : UInt8} {wd : Word} {j : Nat} (hc : s[i]? = some c) (hs : stopB c = false) (h : word s i c = .ok (wd, j)) : Prt wd ∧ c4 wd ≤ 9 * (j - i) := by
  have hl := lt_of_some hc
  have hnil : Alt none (keys []) := trivial
  have hop : OpenL [] := fun p h => by cases h
  unfold word at h
  split at h
  · rename_i h123
    subst h123
    split at h
    · cases h
    · rename_i j' hb
      have hbd := braced_bound s i (s.length - i) i 0 j' (Nat.le_refl _) hb
      have he := braced_end s i (s.length - i) i 0 j' (Nat.le_refl _) hb
      split at h
      · cases h
      · cases h
        have h2 : i + 1 < j := by
          rcases Nat.lt_or_ge (i + 1) j with h | h
          · exact h
          · have : j - 1 = i := by omega
            rw [this, hc] at he; cases he
        by_cases hj : j = i + 2
        · rw [if_pos hj]
          refine ⟨⟨[123, 125], ?_⟩, ?_⟩
          · show wordK ((2 : Int), []) = _
            rfl
          · show 0 + 4 ≤ _; omega
        · rw [if_neg hj]
          have hul : (sub s (i + 1) (j - 1)).length = j - 1 - (i + 1) := by unfold sub; rw [List.length_drop, List.length_take]; omega
          have hy : s.drop i = (123 :: (sub s (i + 1) (j - 1) ++ [125])) ++ s.drop j := by
            have e1 : s.drop i = 123 :: s.drop (i + 1) := by
              obtain ⟨hl', he'⟩ := List.getElem?_eq_some_iff.1 hc
              rw [List.drop_eq_getElem_cons hl', he']
            have e2 : s.drop (i + 1) = sub s (i + 1) (j - 1) ++ s.drop (j - 1) := by
              unfold sub
              conv => lhs; rw [← List.take_append_drop (j - 1) s]
              rw [List.drop_append_of_le_length (by rw [List.length_take]; omega)]
            have e3 : s.drop (j - 1) = 125 :: s.drop j := by
              obtain ⟨hl', he'⟩ := List.getElem?_eq_some_iff.1 he
              rw [List.drop_eq_getElem_cons hl', he', show j - 1 + 1 = j by omega]
            rw [e1, e2, e3]; simp
          have hw : wholeB (sub s (i + 1) (j - 1)) = true := by
            have := braced_loc (s' := 123 :: (sub s (i + 1) (j - 1) ++ [125])) (f' := 0) (j - i) (123 :: (sub s (i + 1) (j - 1) ++ [125])) (s.drop j) [] i 0 0 j (by simp; omega) hy (by simp) hb (by simp; omega)
            unfold wholeB
            rw [this]
            simp; omega
          have hne : sub s (i + 1) (j - 1) ≠ [] := fun e => by rw [e] at hul; simp at hul; omega
          refine ⟨⟨123 :: (sub s (i + 1) (j - 1) ++ [125]), ?_⟩, ?_⟩
          · show wordK ((2 : Int), [(false, sub s (i + 1) (j - 1))]) = _
            unfold wordK
            rw [if_neg (by simp)]
            have hp : partsK 2 none [(false, sub s (i + 1) (j - 1))] = some (sub s (i + 1) (j - 1)) := by
              rw [partsK]
              have : partK 2 none (false, sub s (i + 1) (j - 1)) = some (sub s (i + 1) (j - 1)) := by
                unfold partK
                rw [if_neg (by simp), if_neg (by simp [hne, hw]), if_pos rfl]
              rw [this]
              simp [partsK]
            rw [hp]
            simp
          · show (4 * (sub s (i + 1) (j - 1)).length + 1) + 0 + 4 ≤ _
            omega
  · split at h
    · split at h
      · cases h
      · rename_i ps j' hb
        obtain ⟨h1, h2, h3, -⟩ := parts_fine quoteB s (some i) (s.length - (i + 1)) (i + 1) [] [] ps j' (Nat.le_refl _) hnil hop hb
        have hbd := parts_bound _ s _ (s.length - (i + 1)) (i + 1) [] [] ps j' (Nat.le_refl _) (by omega) hb
        split at h
        · cases h
        · split at h
          · cases h
          · cases h
            obtain ⟨x, hx⟩ := alt_some (kd := 1) (by decide) _ _ h1
            refine ⟨⟨34 :: (x ++ [34]), ?_⟩, ?_⟩
            · show wordK ((1 : Int), keys ps) = _
              unfold wordK
              rw [if_neg (by simp)]
              simp only [hx]
              simp
            · show cost1 (keys ps) + 4 ≤ _
              simp only [w5, keys, cost1, List.map_nil, List.sum_nil, List.length_nil] at h2 ⊢
              omega
    · rename_i hn123 hn34
      split at h
      · cases h
      · rename_i ps j' hb
        have hmore := parts_more hc hs hb
        obtain ⟨h1, h2, h3, -⟩ := parts_fine stopB s none (s.length - i) i [] [] ps j' (Nat.le_refl _) hnil hop hb
        have hne : ps ≠ [] := by
          intro e
          subst e
          -- the first step leaves something
          have hstep := hb
          rw [parts_some hc, hs, if_neg (by decide)] at hstep
          split at hstep
          · cases hstep
          · split at hstep
            · split at hstep
              · cases hstep
              · split at hstep
                · exact absurd rfl ((parts_fine stopB s none _ _ _ _ _ _ (Nat.le_refl _) hnil hop hstep).2.2.2 (by unfold flush; rw [if_neg (by simp)]; simp))
                · cases hstep
            · split at hstep
              · split at hstep
                · cases hstep
                · split at hstep
                  · exact absurd rfl ((parts_fine stopB s none _ _ _ _ _ _ (Nat.le_refl _) hnil hop hstep).2.2.2 (by unfold flush; rw [if_neg (by simp)]; simp))
                  · rename_i h64 hn0
                    have hn := nameLen_le (s.drop (i + 1))
                    rw [List.length_drop] at hn
                    have hf : FineP (true, (s.drop (i + 1)).take (nameLen (s.drop (i + 1)))) := by
                      refine ⟨fun e2 => ?_, fun _ => ⟨by show ((s.drop (i + 1)).take (nameLen (s.drop (i + 1)))).length ≤ 64; rw [List.length_take]; omega, name_all _⟩⟩
                      have e3 : (s.drop (i + 1)).take (nameLen (s.drop (i + 1))) = [] := e2
                      have : ((s.drop (i + 1)).take (nameLen (s.drop (i + 1)))).length = 0 := by rw [e3]; rfl
                      rw [List.length_take, List.length_drop] at this
                      omega
                    have ha : Alt none (keys (flush [] [] ++ [⟨true, (s.drop (i + 1)).take (nameLen (s.drop (i + 1)))⟩])) := ⟨hf, (fun h => by cases h), trivial⟩
                    exact absurd rfl ((parts_fine stopB s none _ _ _ _ _ _ (Nat.le_refl _) ha (fun p hp => by simp [flush] at hp; rw [← hp]) hstep).2.2.2 (by unfold flush; simp))
              · exact absurd rfl ((parts_fine stopB s none _ _ _ _ _ _ (Nat.le_refl _) hnil hop hstep).2.2.2 (by unfold flush; rw [if_neg (by simp)]; simp))
        cases h
        obtain ⟨x, hx⟩ := alt_some (kd := 0) (by decide) _ _ h1
        refine ⟨⟨x, ?_⟩, ?_⟩
        · show wordK ((0 : Int), keys ps) = _
          unfold wordK
          have hk : keys ps ≠ [] := fun e => hne (List.map_eq_nil_iff.1 e)
          rw [if_neg (by simp [hk])]
          simp only [hx]
          simp
        · show cost1 (keys ps) + 4 ≤ _
          simp only [w5, keys, cost1, List.map_nil, List.sum_nil, List.length_nil] at h2 ⊢
          omega
theorem command_fine (s : List UInt8) : ∀ (k i : Nat) (ws r : List Word) (j : Nat), s.length - i ≤ k → (∀ w ∈ ws, Prt w) → command s i ws = .ok (r, j) →
    (∀ w ∈ r, Prt w) ∧ (r.map c4).sum ≤ (ws.map c4).sum + 9 * (j - i) ∧ i ≤ j ∧ (ws ≠ [] → r ≠ []) := by
  intro k
  induction k with
  | zero =>
    intro i ws r j hk hw h
    rw [command_none (List.getElem?_eq_none (by omega))] at h
    cases h
    exact ⟨hw, by omega, Nat.le_refl _, id⟩
  | succ k ih =>
    intro i ws r j hk hw h
    cases hc : s[i]? with
    | none => rw [command_none hc] at h; cases h; exact ⟨hw, by omega, Nat.le_refl _, id⟩
    | some c =>
      have hl := lt_of_some hc
      rw [command_some hc] at h
      split at h
      · cases h; exact ⟨hw, by omega, Nat.le_refl _, id⟩
      · rename_i he
        split at h
        · obtain ⟨h1, h2, h3, h4⟩ := ih _ _ _ _ (by omega) hw h
          exact ⟨h1, by omega, by omega, h4⟩
        · rename_i hb
          split at h
          · cases h
          · rename_i w j' hwd
            split at h
            · rename_i hij
              have hst : stopB c = false := by simp [stopB]; exact ⟨by simpa using hb, by simpa using he⟩
              obtain ⟨f1, f2⟩ := word_fine hc hst hwd
              obtain ⟨h1, h2, h3, h4⟩ := ih _ _ _ _ (by omega) (by
                intro x hx
                rcases List.mem_append.1 hx with h | h
                · exact hw x h
                · simp at h; subst h; exact f1) h
              refine ⟨h1, ?_, by omega, fun _ => h4 (by simp)⟩
              rw [List.map_append, List.sum_append] at h2
              simp at h2; omega
            · cases h
theorem command_words {s : List UInt8} {i : Nat} {c : UInt8} {r : List Word} {j : Nat} (hc : s[i]? = some c) (hs : stopB c = false) (h : command s i [] = .ok (r, j)) : r ≠ [] := by
  have he : endB c = false := by simp [stopB] at hs; exact hs.2
  have hb : blankB c = false := by simp [stopB] at hs; exact hs.1
  rw [command_some hc, he, if_neg (by decide), hb, if_neg (by decide)] at h
  split at h
  · cases h
  · rename_i w j' hwd
    split at h
    · obtain ⟨f1, f2⟩ := word_fine hc hs hwd
      exact (command_fine s _ _ _ _ _ (Nat.le_refl _) (by intro x hx; simp at hx; subst hx; exact f1) h).2.2.2 (by simp)
    · cases h
theorem more_some : ∀ (ws : List Word), (∀ w ∈ ws, Prt w) → ∃ y, moreK (ws.map wkeyP) = some y := by
  intro ws
  induction ws with
  | nil => intro _; exact ⟨[], rfl⟩
  | cons w r ih =>
    intro h
    obtain ⟨x, hx⟩ := h w (by simp)
    obtain ⟨y, hy⟩ := ih (fun v hv => h v (by simp [hv]))
    exact ⟨32 :: (x ++ y), by rw [List.map_cons, moreK, hx]; simp only; rw [hy]⟩
theorem cmd_some {ws : List Word} (h : ∀ w ∈ ws, Prt w) (hn : ws ≠ []) : ∃ y, cmdK (ws.map wkeyP) = some y := by
  cases ws with
  | nil => exact absurd rfl hn
  | cons w r =>
    obtain ⟨x, hx⟩ := h w (by simp)
    obtain ⟨y, hy⟩ := more_some r (fun v hv => h v (by simp [hv]))
    exact ⟨x ++ y, by rw [List.map_cons, cmdK, hx]; simp only; rw [hy]⟩
def PrtC (c : Cmd) : Prop := ∃ y, cmdK (ckeyP c) = some y
def c5 (c : Cmd) : Nat := (c.words.map c4).sum + 1
theorem parse_fine (s : List UInt8) : ∀ (k i : Nat) (l r : List Cmd), s.length - i ≤ k → (∀ c ∈ l, PrtC c) → parseGo s i l = .ok r → (∀ c ∈ r, PrtC c) ∧ (r.map c5).sum ≤ (l.map c5).sum + 10 * (s.length - i) := by
  intro k
  induction k with
  | zero =>
    intro i l r hk hp h
    rw [parse_none (List.getElem?_eq_none (by omega))] at h
    cases h
    exact ⟨hp, by omega⟩
  | succ k ih =>
    intro i l r hk hp h
    cases hc : s[i]? with
    | none => rw [parse_none hc] at h; cases h; exact ⟨hp, by omega⟩
    | some c =>
      have hl := lt_of_some hc
      rw [parse_some hc] at h
      split at h
      · obtain ⟨h1, h2⟩ := ih _ _ _ (by omega) hp h
        exact ⟨h1, by omega⟩
      · rename_i hst
        split at h
        · split at h
          · rename_i hpos
            obtain ⟨h1, h2⟩ := ih _ _ _ (by omega) hp h
            exact ⟨h1, by omega⟩
          · cases h
        · split at h
          · cases h
          · rename_i ws j hcm
            split at h
            · rename_i hij
              have hs : stopB c = false := by simpa using hst
              have hbd := command_bound s (s.length - i) i [] ws j (Nat.le_refl _) (by omega) hcm
              obtain ⟨g1, g2, g3, -⟩ := command_fine s (s.length - i) i [] ws j (Nat.le_refl _) (by simp) hcm
              have hne := command_words hc hs hcm
              obtain ⟨h1, h2⟩ := ih _ _ _ (by omega) (by
                intro x hx
                rcases List.mem_append.1 hx with h | h
                · exact hp x h
                · simp at h; subst h; exact cmd_some g1 hne) h
              refine ⟨h1, ?_⟩
              rw [List.map_append, List.sum_append] at h2
              simp [c5] at h2 g2 ⊢
              omega
            · cases h
theorem print_some : ∀ (cs : List Cmd), (∀ c ∈ cs, PrtC c) → ∃ t, printK (cs.map ckeyP) = some t := by
  intro cs
  induction cs with
  | nil => intro _; exact ⟨[], rfl⟩
  | cons c r ih =>
    intro h
    obtain ⟨x, hx⟩ := h c (by simp)
    obtain ⟨y, hy⟩ := ih (fun v hv => h v (by simp [hv]))
    exact ⟨x ++ 10 :: y, by rw [List.map_cons, printK, hx]; simp only; rw [hy]⟩
/-- What is parsed can be printed. -/
theorem parse_print {s : List UInt8} {cs : List Cmd} (h : parse s = .ok cs) : (∃ t, printK (cs.map ckeyP) = some t) ∧ (cs.map c5).sum ≤ 10 * s.length := by
  unfold parse at h
  split at h
  · cases h
  · obtain ⟨h1, h2⟩ := parse_fine s s.length 0 [] cs (by omega) (by simp) h
    exact ⟨print_some cs h1, by simpa using h2⟩
end Tcl
end Go.Proofs.Yteodhnblbehenaa
namespace Go.Proofs.Yteodhnblbehenaa
open Go.RowKit Tcl PTclParses YteodhnblbehenaaW.PrintWords
set_option maxRecDepth 100000 in
set_option maxHeartbeats 8000000 in
theorem great_any (w : World) (A : Option Addr) (n c : Nat) (l : List S33) (hn : n = l.length) (hn9 : n ≤ 9223372036854775807) (hk : k33.C w A n l) (hsm : ∀ x ∈ l, x.f1.length ≤ 9223372036854775807 ∧ ∀ y ∈ x.f1, y.f2.length ≤ 9223372036854775807) :
    Calls Try.prog 16 #[.slice A n c] w fun e w' => (∃ b, e = .returned (.bool b)) ∧ Chg [] w w' := by
  replace hk := Lib.hid hk
  replace hn := Lib.hid hn
  replace hsm := Lib.hid hsm
  go_enter Try.func16, Try.ntmps16
  go_wp2_with fail
  go_loopg [3, 12] n (fun gk v3 v12 wr => ∃ (i : Nat) (x : Int), v3 = .int .i64 x ∧ v12 = .int .i64 i ∧ i ≤ n ∧ gk = n - i ∧ Hid (Chg [] w wr))
  case atStart => exact ⟨0, 0, rfl, rfl, by omega, by omega, Lib.hid (Chg.refl _ _)⟩
  case round =>
    obtain ⟨i, x, rfl, rfl, hi, rfl, hC⟩ := hrel
    by_cases hlt : i < n
    · have hil : i < l.length := by have := hn.out; omega
      obtain ⟨ad, A1, c1, rfl, q1, q2, hc1, hk1⟩ := at_T33 hk.out (i : Int) (by omega) (by omega)
      replace q1 := hC.out.cell q1 (by simp)
      replace q2 := hC.out.cell q2 (by simp)
      have er : rd_T33 l (i : Int) = l[i] := by unfold rd_T33; simp [List.getD, hil]
      rw [er] at q1 q2 hc1 hk1
      clear er
      simp only [Int.toNat_natCast] at q1 q2
      have hs1 := hsm.out l[i] (List.getElem_mem hil)
      generalize l[i] = cm at q1 q2 hc1 hk1 hs1
      obtain ⟨at_, ws⟩ := cm
      simp only at q1 q2 hc1 hk1 hs1
      obtain ⟨hs1, hs2⟩ := hs1
      obtain ⟨m, hm⟩ : ∃ m, ws.length = m := ⟨_, rfl⟩
      rw [hm] at q2 hc1 hk1 hs1
      replace hm := Lib.hid hm
      replace hk1 := Lib.hid hk1
      replace hs2 := Lib.hid hs2
      have hC6 := Lib.hid (hC.out.alloc (.cells #[.int .i64 at_, .slice A1 m c1] 33))
      clear hC
      go_upto_block 2 with (fail)
      generalize wr.alloc (.cells #[.int .i64 at_, .slice A1 m c1] 33) = w6 at hC6 ⊢
      clear q1 q2
      go_wp2
      go_loopg [3, 25] m (fun gk v3 v25 wx => ∃ (j : Nat) (x : Int), v3 = .int .i64 x ∧ v25 = .int .i64 j ∧ j ≤ m ∧ gk = m - j ∧ Hid (Chg [] w wx))
      case atStart => exact ⟨0, _, rfl, rfl, by omega, by omega, hC6⟩
      case round =>
        obtain ⟨j, x2, rfl, rfl, hj, rfl, hC7⟩ := hrel
        clear hC6
        by_cases hlt2 : j < m
        · have hjl : j < ws.length := by have := hm.out; omega
          obtain ⟨ad2, A2, c2, rfl, z0, z1, z2, hc2, hk2⟩ := at_T38 hk1.out (j : Int) (by omega) (by omega)
          replace z0 := hC7.out.cell z0 (by simp)
          replace z1 := hC7.out.cell z1 (by simp)
          replace z2 := hC7.out.cell z2 (by simp)
          have er : rd_T38 ws (j : Int) = ws[j] := by unfold rd_T38; simp [List.getD, hjl]
          rw [er] at z0 z1 z2 hc2 hk2
          clear er
          simp only [Int.toNat_natCast] at z0 z1 z2
          have hs3 := hs2.out ws[j] (List.getElem_mem hjl)
          generalize ws[j] = wd at z0 z1 z2 hc2 hk2 hs3
          obtain ⟨wat, kd, ps⟩ := wd
          simp only at z0 z1 z2 hc2 hk2 hs3
          obtain ⟨q, hq⟩ : ∃ q, ps.length = q := ⟨_, rfl⟩
          rw [hq] at z2 hc2 hk2 hs3
          replace hq := Lib.hid hq
          replace hk2 := Lib.hid hk2
          have hC8 := Lib.hid (hC7.out.alloc (.cells #[.int .i64 wat, .int .i64 kd, .slice A2 q c2] 38))
          clear hC7
          go_upto_block 4 with (fail)
          generalize wr.alloc (.cells #[.int .i64 wat, .int .i64 kd, .slice A2 q c2] 38) = w8 at hC8 ⊢
          clear z0 z1 z2
          go_wp2
          go_loopg [3, 37] q (fun gk v3 v37 wx => ∃ (k : Nat) (x : Int), v3 = .int .i64 x ∧ v37 = .int .i64 k ∧ k ≤ q ∧ gk = q - k ∧ Hid (Chg [] w wx))
          case atStart => exact ⟨0, _, rfl, rfl, by omega, by omega, hC8⟩
          case round =>
            obtain ⟨k, x3, rfl, rfl, hkk, rfl, hC9⟩ := hrel
            clear hC8
            by_cases hlt3 : k < q
            · have hkl : k < ps.length := by have := hq.out; omega
              obtain ⟨ad3, rfl, y0, y1⟩ := at_T41 hk2.out (k : Int) (by omega) (by omega)
              replace y0 := hC9.out.cell y0 (by simp)
              replace y1 := hC9.out.cell y1 (by simp)
              have er : rd_T41 ps (k : Int) = ps[k] := by unfold rd_T41; simp [List.getD, hkl]
              rw [er] at y0 y1
              clear er
              simp only [Int.toNat_natCast] at y0 y1
              generalize ps[k] = p at y0 y1
              obtain ⟨pv, st⟩ := p
              simp only at y0 y1
              have hC10 := Lib.hid (hC9.out.alloc (.cells #[.bool pv, .string st] 41))
              go_wp2_with fail
              go_roundg (q - (k + 1))
              case measure => omega
              case rel => exact ⟨k + 1, _, rfl, by go_num, by omega, rfl, hC10⟩
            · obtain rfl : k = q := by omega
              go_wp2_with fail
              go_roundg (m - (j + 1))
              case measure => omega
              case rel => exact ⟨j + 1, _, rfl, by go_num, by omega, rfl, hC9⟩
        · obtain rfl : j = m := by omega
          go_wp2_with fail
          go_roundg (n - (i + 1))
          case measure => omega
          case rel => exact ⟨i + 1, _, rfl, by go_num, by omega, rfl, hC7⟩
    · obtain rfl : i = n := by omega
      go_wp2_with fail
      go_ret
      exact ⟨⟨_, rfl⟩, hC.out⟩
end Go.Proofs.Yteodhnblbehenaa
namespace Go.Proofs.Yteodhnblbehenaa
open Go.RowKit Tcl PTclParses YteodhnblbehenaaW.PrintWords
theorem parts_len {kd : Int} : ∀ (ps : List PK) (prev : Option Bool) (x : List UInt8), partsK kd prev ps = some x → x.length ≤ costK ps := by
  intro ps
  induction ps with
  | nil => intro prev x h; rw [partsK] at h; cases h; exact Nat.zero_le _
  | cons p ps ih =>
    intro prev x h
    rw [partsK] at h
    split at h
    · cases h
    · rename_i y hy
      split at h
      · cases h
      · rename_i z hz
        cases h
        have h1 := ih _ _ hz
        have h2 : y.length ≤ 4 * p.2.length + 1 := by
          unfold partK at hy
          split at hy
          · split at hy
            · cases hy
            · cases hy; simp only [List.length_cons]; omega
          · split at hy
            · cases hy
            · split at hy
              · cases hy; omega
              · cases hy
                have := textB_len (decide (kd = 0)) p.2 prev.isSome; omega
        simp only [costK, List.map_cons, List.sum_cons] at h1 ⊢
        rw [List.length_append]; omega
theorem word_len {W : WK} {x : List UInt8} (h : wordK W = some x) : x.length ≤ costK W.2 + 2 := by
  unfold wordK at h
  split at h
  · cases h
  · split at h
    · cases h
    · rename_i y hy
      have := parts_len _ _ _ hy
      cases h
      split
      · omega
      · split <;> simp <;> omega
def costW (W : WK) : Nat := costK W.2 + 4
def costC (c : CK) : Nat := (c.map costW).sum + 1
def costL (l : List CK) : Nat := (l.map costC).sum
theorem sum_get {α : Type} (f : α → Nat) {l : List α} {i : Nat} {a : α} (h : l[i]? = some a) : ((l.take i).map f).sum + f a = ((l.take (i + 1)).map f).sum := by
  rw [List.take_add_one, h]; simp
theorem sum_take {α : Type} (f : α → Nat) (l : List α) (i : Nat) : ((l.take i).map f).sum ≤ (l.map f).sum := by
  conv => rhs; rw [← List.take_append_drop i l]
  rw [List.map_append, List.sum_append]; omega
theorem sum_len {α : Type} (f : α → Nat) (hf : ∀ a, 1 ≤ f a) (l : List α) : l.length ≤ (l.map f).sum := by
  induction l with
  | nil => exact Nat.zero_le _
  | cons a l ih => have := hf a; simp; omega
/-- Words behind `j` others. -/
def restK (j : Nat) (ws : CK) : Option (List UInt8) := if j = 0 then cmdK ws else moreK ws
def RunW (c : CK) (j : Nat) (Y : List UInt8) : Prop := cmdK c = (restK j (c.drop j)).map (Y ++ ·)
theorem runW_init (c : CK) : RunW c 0 [] := by
  unfold RunW restK
  rw [if_pos rfl, List.drop_zero]
  cases cmdK c <;> simp
theorem runW_none {c : CK} {j : Nat} {Y : List UInt8} {W : WK} (h : RunW c j Y) (hW : c[j]? = some W) (hn : wordK W = none) : cmdK c = none := by
  obtain ⟨hl, he⟩ := List.getElem?_eq_some_iff.1 hW
  rw [h, List.drop_eq_getElem_cons hl, he]
  unfold restK
  split
  · rw [cmdK, hn]; rfl
  · rw [moreK, hn]; rfl
theorem runW_some {c : CK} {j : Nat} {Y x : List UInt8} {W : WK} (h : RunW c j Y) (hW : c[j]? = some W) (hn : wordK W = some x) : RunW c (j + 1) (Y ++ ((if j = 0 then [] else [32]) ++ x)) := by
  obtain ⟨hl, he⟩ := List.getElem?_eq_some_iff.1 hW
  unfold RunW at h ⊢
  rw [h, List.drop_eq_getElem_cons hl, he]
  unfold restK
  rw [if_neg (show ¬ j + 1 = 0 by omega)]
  by_cases hj : j = 0
  · rw [if_pos hj, if_pos hj, cmdK, hn]
    cases moreK (c.drop (j + 1)) <;> simp
  · rw [if_neg hj, if_neg hj, moreK, hn]
    cases moreK (c.drop (j + 1)) <;> simp
theorem runW_end {c : CK} {Y : List UInt8} (h : RunW c c.length Y) (h0 : c ≠ []) : cmdK c = some Y := by
  rw [h, List.drop_length]
  unfold restK
  rw [if_neg (by intro e; exact h0 (List.eq_nil_of_length_eq_zero e)), moreK]; simp
def RunL (l : List CK) (i : Nat) (X : List UInt8) : Prop := printK l = (printK (l.drop i)).map (X ++ ·)
theorem runL_init (l : List CK) : RunL l 0 [] := by
  unfold RunL
  rw [List.drop_zero]
  cases printK l <;> simp
theorem runL_none {l : List CK} {i : Nat} {X : List UInt8} {c : CK} (h : RunL l i X) (hc : l[i]? = some c) (hn : cmdK c = none) : printK l = none := by
  obtain ⟨hl, he⟩ := List.getElem?_eq_some_iff.1 hc
  rw [h, List.drop_eq_getElem_cons hl, he, printK, hn]; rfl
theorem runL_some {l : List CK} {i : Nat} {X x : List UInt8} {c : CK} (h : RunL l i X) (hc : l[i]? = some c) (hn : cmdK c = some x) : RunL l (i + 1) (X ++ (x ++ [10])) := by
  obtain ⟨hl, he⟩ := List.getElem?_eq_some_iff.1 hc
  unfold RunL at h ⊢
  rw [h, List.drop_eq_getElem_cons hl, he, printK, hn]
  cases printK (l.drop (i + 1)) <;> simp
theorem runL_end {l : List CK} {X : List UInt8} (h : RunL l l.length X) : printK l = some X := by
  rw [h, List.drop_length, printK]; simp
/-- What `Print` tells. -/
def PrEnd (w : World) (l : List CK) (e : Ending) (w' : World) : Prop :=
  Chg [] w w' ∧ ((∃ t, printK l = some t ∧ t.length ≤ 15000000 ∧ e = .returned (.tuple #[.string (bstr t), .int .i64 0])) ∨ (printK l = none ∧ e = .returned (.tuple #[.string (bstr []), .int .i64 2])))
set_option maxRecDepth 100000 in
set_option maxHeartbeats 8000000 in
theorem print_any (w : World) (A : Option Addr) (n c : Nat) (l : List S33) (hn : n = l.length) (hk : k33.C w A n l) (hlen : costL (l.map ckey) ≤ 15000000) :
    Calls Try.prog 17 #[.slice A n c] w (PrEnd w (l.map ckey)) := by
  unfold PrEnd
  obtain ⟨KS, hKS⟩ : ∃ KS, l.map ckey = KS := ⟨_, rfl⟩
  have hKg : ∀ i (h : i < n), KS[i]? = (l[i]?).map ckey := fun i h => by rw [← hKS, List.getElem?_map]
  have hKl : KS.length = n := by rw [← hKS, List.length_map]; exact hn.symm
  rw [hKS] at hlen ⊢
  have hn9 : n ≤ 15000000 := by
    have := sum_len costC (fun a => by unfold costC; omega) KS
    unfold costL at hlen
    omega
  have hB0 := Bd.init w
  obtain ⟨g, hg⟩ : ∃ g, w.heap.size = g := ⟨_, rfl⟩
  rw [hg] at hB0
  replace hKg := Lib.hid hKg
  replace hKl := Lib.hid hKl
  replace hk := Lib.hid hk
  replace hlen := Lib.hid hlen
  replace hB0 := Lib.hid hB0
  replace hn := Lib.hid hn
  clear hKS
  go_enter Try.func17, Try.ntmps17
  go_upto_block 0 with (fail)
  generalize w.alloc (.cells #[.pointer none, .slice none 0 0] 69) = w1 at hB0 ⊢
  replace hg := Lib.hid hg
  go_wp2
  go_loopg [11] n (fun gk v11 wr => ∃ (i : Nat) (X : List UInt8), v11 = .int .i64 i ∧ i ≤ n ∧ gk = n - i ∧ X.length ≤ costL (KS.take i) ∧ Hid (RunL KS i X) ∧ Hid (Bd w wr g X))
  case atStart => exact ⟨0, [], rfl, by omega, by omega, by simp, Lib.hid (runL_init _), hB0⟩
  case round =>
    obtain ⟨i, X, rfl, hi, rfl, hX, hRun, hB⟩ := hrel
    clear hB0
    by_cases hlt : i < n
    · have hil : i < l.length := by have := hn.out; omega
      obtain ⟨ad, A1, c1, rfl, q1, q2, hc1, hk1⟩ := at_T33 hk.out (i : Int) (by omega) (by omega)
      replace q1 := hB.out.C.cell q1 (by simp)
      replace q2 := hB.out.C.cell q2 (by simp)
      have er : rd_T33 l (i : Int) = l[i] := by unfold rd_T33; simp [List.getD, hil]
      rw [er] at q1 q2 hc1 hk1
      clear er
      simp only [Int.toNat_natCast] at q1 q2
      have hCi : Hid (KS[i]? = some (ckey l[i])) := Lib.hid (by rw [hKg.out i hlt, List.getElem?_eq_getElem hil]; rfl)
      generalize l[i] = cm at q1 q2 hc1 hk1 hCi
      obtain ⟨at_, ws⟩ := cm
      simp only at q1 q2 hc1 hk1
      obtain ⟨C, hC⟩ : ∃ C, ckey ⟨at_, ws⟩ = C := ⟨_, rfl⟩
      rw [hC] at hCi
      obtain ⟨m, hm⟩ : ∃ m, ws.length = m := ⟨_, rfl⟩
      have hCg : ∀ j (h : j < m), C[j]? = (ws[j]?).map wkey := fun j h => by rw [← hC]; show (ws.map wkey)[j]? = _; rw [List.getElem?_map]
      have hCl : C.length = m := by rw [← hC, ← hm]; show (ws.map wkey).length = _; rw [List.length_map]
      rw [hm] at q2 hc1 hk1
      have hcost := sum_get costC hCi.out
      have hcost2 := sum_take costC KS (i + 1)
      have hl9 := hlen.out
      unfold costL at hl9 hX
      have hcC : costC C = (C.map costW).sum + 1 := rfl
      have hm9 : m ≤ 15000000 := by
        have := sum_len costW (fun a => by unfold costW; omega) C
        omega
      have hXC : X.length + (C.map costW).sum + 1 ≤ 15000000 := by omega
      have hX2 : Hid (X.length + (C.map costW).sum + 1 ≤ costL (KS.take (i + 1))) := Lib.hid (by unfold costL; omega)
      clear hcost hcost2 hl9 hcC hX
      replace hm := Lib.hid hm
      replace hC := Lib.hid hC
      replace hCg := Lib.hid hCg
      replace hCl := Lib.hid hCl
      have hA := (Chg.refl [] wr).alloc (.cells #[.int .i64 at_, .slice A1 m c1] 33)
      replace hk1 := Lib.hid hk1
      have hB6 := Lib.hid (hB.out.chg hA)
      clear hA hB
      by_cases hm0 : m = 0
      · subst hm0
        have hcn : cmdK C = none := by
          have : C = [] := List.eq_nil_of_length_eq_zero hCl.out
          rw [this]; rfl
        have hpn := Lib.hid (runL_none hRun.out hCi.out hcn)
        have hCw := Lib.hid hB6.out.C
        clear hcn hB6
        go_wp2_with fail
        (try rw [Exit.noGoto_ret])
        go_ret2
        exact ⟨hCw.out, .inr ⟨hpn.out, rfl⟩⟩
      · have em : ((m : Int) == 0) = false := by rw [beq_eq_false_iff_ne]; omega
        go_upto_block 2 with (fail)
        generalize wr.alloc (.cells #[.int .i64 at_, .slice A1 m c1] 33) = w6 at hB6 ⊢
        clear q1 q2
        go_cut [] (fun wx => ∃ Y, Hid (cmdK C = some Y) ∧ Y.length ≤ (C.map costW).sum ∧ Hid (Bd w wx g (X ++ Y)))
        case first =>
          go_wp2
          go_loopg [22] m (fun gk v22 wx => ∃ (j : Nat) (Y : List UInt8), v22 = .int .i64 j ∧ j ≤ m ∧ gk = m - j ∧ Y.length ≤ ((C.take j).map costW).sum ∧ Hid (RunW C j Y) ∧ Hid (Bd w wx g (X ++ Y)))
          case atStart => exact ⟨0, [], rfl, by omega, by omega, by simp, Lib.hid (runW_init _), Lib.hid (by rw [List.append_nil]; exact hB6.out)⟩
          case round =>
            clear hB6
            obtain ⟨j, Y, rfl, hj, rfl, hY, hRw, hBx⟩ := hrel
            by_cases hlt2 : j < m
            · have hjl : j < ws.length := by have := hm.out; omega
              obtain ⟨ad2, A2, c2, rfl, z0, z1, z2, hc2, hk2⟩ := at_T38 hk1.out (j : Int) (by omega) (by omega)
              replace z0 := hBx.out.C.cell z0 (by simp)
              replace z1 := hBx.out.C.cell z1 (by simp)
              replace z2 := hBx.out.C.cell z2 (by simp)
              have er : rd_T38 ws (j : Int) = ws[j] := by unfold rd_T38; simp [List.getD, hjl]
              rw [er] at z0 z1 z2 hc2 hk2
              clear er
              simp only [Int.toNat_natCast] at z0 z1 z2
              have hWi : Hid (C[j]? = some (wkey ws[j])) := Lib.hid (by rw [hCg.out j hlt2, List.getElem?_eq_getElem hjl]; rfl)
              generalize ws[j] = wd at z0 z1 z2 hc2 hk2 hWi
              obtain ⟨wat, kd, ps⟩ := wd
              simp only at z0 z1 z2 hc2 hk2
              obtain ⟨K, hK⟩ : ∃ K, ps.map pkey = K := ⟨_, rfl⟩
              have hWi2 : wkey ⟨wat, kd, ps⟩ = (kd, K) := by rw [← hK]; rfl
              rw [hWi2] at hWi
              have hc9 := sum_get costW hWi.out
              have hc8 := sum_take costW C (j + 1)
              have hcw : costW (kd, K) = costK K + 4 := rfl
              obtain ⟨q, hq⟩ : ∃ q, ps.length = q := ⟨_, rfl⟩
              rw [hq] at z2 hc2 hk2
              replace hq := Lib.hid hq.symm
              have hWk := Lib.hid hK
              replace hk2 := Lib.hid hk2
              clear hWi2 hK hc2
              have hA := (Chg.refl [] wr).alloc (.cells #[.int .i64 wat, .int .i64 kd, .slice A2 q c2] 38)
              have hB8 := Lib.hid (hBx.out.chg hA)
              have hP8 := Lib.hid (blk_new wr (.cells #[.int .i64 wat, .int .i64 kd, .slice A2 q c2] 38))
              have hgk8 : g < wr.heap.size := by obtain ⟨p, v, _, h⟩ := hBx.out; exact lt_heap h.H
              obtain ⟨k8, hk8⟩ : ∃ k8, wr.heap.size = k8 := ⟨_, rfl⟩
              rw [hk8] at hP8 hgk8
              clear hA hBx
              go_upto_region 10 with fail
              generalize wr.alloc (.cells #[.int .i64 wat, .int .i64 kd, .slice A2 q c2] 38) = w8 at hB8 hP8 ⊢
              clear hk8 z0 z1 z2
              by_cases hj0 : j = 0
              · subst hj0
                have hBs : Hid (Bd w w8 g (X ++ Y ++ [])) := Lib.hid (by rw [List.append_nil]; exact hB8.out)
                have hPs := hP8
                clear hB8 hP8
                generalize w8 = w9 at hBs hPs ⊢
                have hW9 : Hid (Bd w w9 g (X ++ Y ++ [])) := hBs
                obtain ⟨y0, y1, y2⟩ : w9.cell? ⟨k8, 0, none⟩ = some (.int .i64 wat) ∧ w9.cell? ⟨k8, 1, none⟩ = some (.int .i64 kd) ∧ w9.cell? ⟨k8, 2, none⟩ = some (.slice A2 q c2) := by have := hPs.out; refine ⟨?_, ?_, ?_⟩ <;> simp [World.cell?, this]
                have hcall := Lib.hid (wordp_any w w9 g (X ++ Y ++ []) wat kd A2 q c2 ps hq.out hk2.out hW9.out (by rw [hWk.out, List.length_append, List.length_append]; simp; omega))
                rw [hWk.out] at hcall
                unfold WpEnd at hcall
                go_wp2_with fail
                refine (hcall.out).mono ?_
                rintro e w10 ⟨b, rfl, hC10, -, hn10, hs10⟩
                clear hcall
                cases hwv : wordK (kd, K) with
                | none =>
                  obtain rfl : b = false := hn10 hwv
                  have hpn := Lib.hid (runL_none hRun.out hCi.out (runW_none hRw.out hWi.out hwv))
                  replace hC10 := Lib.hid hC10
                  clear hn10 hs10 hwv hBs hPs hW9
                  go_wp2_with fail
                  (try rw [Exit.noGoto_ret])
                  go_ret2
                  exact ⟨hC10.out, .inr ⟨hpn.out, rfl⟩⟩
                | some x =>
                  obtain ⟨rfl, hB10⟩ := hs10 x hwv
                  have hxl := word_len hwv
                  have hr2 := Lib.hid (runW_some hRw.out hWi.out hwv)
                  rw [if_pos rfl] at hr2
                  have hB11 : Hid (Bd w w10 g (X ++ (Y ++ ([] ++ x)))) := Lib.hid (by simp only [List.append_assoc] at hB10 ⊢; exact hB10)
                  have hyl : (Y ++ ([] ++ x)).length ≤ ((C.take (0 + 1)).map costW).sum := by
                    have : costW (kd, K) = costK K + 4 := rfl
                    simp only [List.length_append, List.length_cons, List.length_nil] at hxl ⊢; omega
                  clear hn10 hs10 hwv hB10 hxl hC10 hBs hPs hW9
                  go_wp2_with fail
                  go_roundg (m - (0 + 1))
                  case measure => omega
                  case rel => exact ⟨0 + 1, _, by go_num, by omega, rfl, hyl, hr2, hB11⟩
              · have e0 : decide ((j : Int) > 0) = true := by simp; omega
                have e0n : decide (0 < j) = true := by simp; omega
                have hwb := Lib.hid (writeByte_bd w w8 g (X ++ Y) 32 hB8.out (by rw [List.length_append]; omega))
                go_wp2_with fail
                refine (hwb.out).mono ?_
                rintro e w9 ⟨rfl, hB9, hK9⟩
                have hBs := Lib.hid hB9
                have hPs := Lib.hid (hK9.2 _ _ hP8.out (by omega) (by intro cs f h; cases h))
                clear hwb hB9 hK9 hB8 hP8
                have hW9 : Hid (Bd w w9 g (X ++ Y ++ [32])) := hBs
                obtain ⟨y0, y1, y2⟩ : w9.cell? ⟨k8, 0, none⟩ = some (.int .i64 wat) ∧ w9.cell? ⟨k8, 1, none⟩ = some (.int .i64 kd) ∧ w9.cell? ⟨k8, 2, none⟩ = some (.slice A2 q c2) := by have := hPs.out; refine ⟨?_, ?_, ?_⟩ <;> simp [World.cell?, this]
                have hcall := Lib.hid (wordp_any w w9 g (X ++ Y ++ [32]) wat kd A2 q c2 ps hq.out hk2.out hW9.out (by rw [hWk.out, List.length_append, List.length_append]; simp; omega))
                rw [hWk.out] at hcall
                unfold WpEnd at hcall
                go_wp2_with fail
                refine (hcall.out).mono ?_
                rintro e w10 ⟨b, rfl, hC10, -, hn10, hs10⟩
                clear hcall
                cases hwv : wordK (kd, K) with
                | none =>
                  obtain rfl : b = false := hn10 hwv
                  have hpn := Lib.hid (runL_none hRun.out hCi.out (runW_none hRw.out hWi.out hwv))
                  replace hC10 := Lib.hid hC10
                  clear hn10 hs10 hwv hBs hPs hW9
                  go_wp2_with fail
                  (try rw [Exit.noGoto_ret])
                  go_ret2
                  exact ⟨hC10.out, .inr ⟨hpn.out, rfl⟩⟩
                | some x =>
                  obtain ⟨rfl, hB10⟩ := hs10 x hwv
                  have hxl := word_len hwv
                  have hr2 := Lib.hid (runW_some hRw.out hWi.out hwv)
                  rw [if_neg (by omega)] at hr2
                  have hB11 : Hid (Bd w w10 g (X ++ (Y ++ ([32] ++ x)))) := Lib.hid (by simp only [List.append_assoc] at hB10 ⊢; exact hB10)
                  have hyl : (Y ++ ([32] ++ x)).length ≤ ((C.take (j + 1)).map costW).sum := by
                    have : costW (kd, K) = costK K + 4 := rfl
                    simp only [List.length_append, List.length_cons, List.length_nil] at hxl ⊢; omega
                  clear hn10 hs10 hwv hB10 hxl hC10 hBs hPs hW9
                  go_wp2_with fail
                  go_roundg (m - (j + 1))
                  case measure => omega
                  case rel => exact ⟨j + 1, _, by go_num, by omega, rfl, hyl, hr2, hB11⟩
            · obtain rfl : j = m := by omega
              have hcne : C ≠ [] := fun h => hm0 (by rw [← hCl.out, h]; rfl)
              have hY2 := Lib.hid (runW_end (by rw [hCl.out]; exact hRw.out) hcne)
              have hYl2 : Y.length ≤ (C.map costW).sum := Nat.le_trans hY (sum_take costW C j)
              clear hcne
              go_wp2_with fail
              go_meet
              exact ⟨Y, hY2, hYl2, hBx⟩
        case rest =>
        obtain ⟨Y, hY, hYl, hB7⟩ := hcut
        clear hB6
        have hwb := Lib.hid (writeByte_bd w wc g (X ++ Y) 10 hB7.out (by rw [List.length_append]; omega))
        have hrel : Hid (∀ wx, Bd w wx g (X ++ Y ++ [10]) → ∃ (i' : Nat) (X' : List UInt8), ((i : Int) + 1) = (i' : Int) ∧ i' ≤ n ∧ n - (i + 1) = n - i' ∧ X'.length ≤ costL (KS.take i') ∧ Hid (RunL KS i' X') ∧ Hid (Bd w wx g X')) := Lib.hid (fun wx hb => ⟨i + 1, X ++ (Y ++ [10]), by omega, by omega, rfl, by
          have := hX2.out
          rw [List.length_append, List.length_append]; simp; omega, Lib.hid (runL_some hRun.out hCi.out hY.out), Lib.hid (by rw [← List.append_assoc]; exact hb)⟩)
        go_wp2_with fail
        refine (hwb.out).mono ?_
        rintro e w8 ⟨rfl, hB8, -⟩
        have hfin := Lib.hid (hrel.out _ hB8)
        clear hB8 hwb hrel hB7
        go_wp2_with fail
        go_roundg (n - (i + 1))
        case measure => omega
        case rel =>
          obtain ⟨i', X', h1, h2⟩ := hfin.out
          exact ⟨i', X', by rw [← h1], h2⟩
    · obtain rfl : i = n := by omega
      have hp := Lib.hid (runL_end (by rw [hKl.out]; exact hRun.out))
      have hXl : X.length ≤ 15000000 := by
        have h1 := sum_take costC KS i
        have h2 := hlen.out
        unfold costL at hX h2
        omega
      have hle := Lib.hid (len_bd w wr g X hB.out)
      have hse := Lib.hid (string_bd w wr g X hB.out)
      have hd : decide ((X.length : Int) > 16777216) = false := by simp; omega
      go_wp2_with fail
      refine (hle.out).mono ?_
      rintro e w8 ⟨rfl, h8⟩
      rw [h8]
      clear h8 hle
      go_wp2_with fail
      refine (hse.out).mono ?_
      rintro e w9 ⟨rfl, hC9⟩
      replace hC9 := Lib.hid hC9
      clear hse hB
      go_wp2_with fail
      go_ret2
      exact ⟨hC9.out, .inl ⟨X, hp.out, hXl, rfl⟩⟩
end Go.Proofs.Yteodhnblbehenaa
namespace Go.Proofs.Yteodhnblbehenaa
open Go.ChangeShapes Go.WideShapes Go.Deep
mutual
def bulkD : Dt → Nat
  | .int _ => 1
  | .bool _ => 1
  | .str s => s.size + 1
  | .sl rows => bulkRs rows + 1
def bulkRs : List (List Dt) → Nat
  | [] => 0
  | r :: rs => bulkR r + bulkRs rs
def bulkR : List Dt → Nat
  | [] => 0
  | d :: r => bulkD d + bulkR r
end
section
variable {H : Type} {enc : TypeId × Value → H} {P : Program} {w : World} {base : Nat} {spare : Nat → Bool} {held : Bool}
theorem rows_bulk (D : Nat → DataW H) : ∀ (R : List (List Dt)) (k : Nat), (∀ i r, R[i]? = some r → bulkR r ≤ Rows.uptoBulk (D (k + i))) → bulkRs R ≤ Rows.uptoBulkAll ((List.range' k R.length).map D) := by
  intro R
  induction R with
  | nil => intro k _; simp [bulkRs]
  | cons r R ih =>
    intro k h
    have h0 := h 0 r rfl
    have h1 := ih (k + 1) (fun i r hr => by rw [show k + 1 + i = k + (i + 1) by omega]; exact h (i + 1) r hr)
    rw [List.length_cons, List.range'_succ, List.map_cons]
    simp only [bulkRs, Rows.uptoBulkAll]
    rw [Nat.add_zero] at h0
    omega
theorem row_bulk : ∀ (row : List Dt) (xs : List (DataW H)), row.length = xs.length → (∀ (j : Nat) (d : Dt), row[j]? = some d → ∃ z : DataW H, xs[j]? = some z ∧ bulkD d ≤ Rows.uptoBulk z) → bulkR row ≤ Rows.uptoBulkAll xs := by
  intro row
  induction row with
  | nil => intro xs _ _; simp [bulkR]
  | cons d row ih =>
    intro xs hl h
    cases xs with
    | nil => simp at hl
    | cons z xs =>
      obtain ⟨z', hz', hb⟩ := h 0 d rfl
      simp at hz'; subst hz'
      have := ih xs (by simpa using hl) (fun j e he => h (j + 1) e he)
      simp only [bulkR, Rows.uptoBulkAll]
      omega
theorem readsB_of_trod : ∀ (n : Nat) (t : TypeId) (sh : Sh) (fuel : Nat) (v : Value) (x : DataW H × List MemPlace), shOf P n t = some sh → DataW.trod enc P w base spare held fuel t [v] = some x → ∃ d, Reads w sh v d ∧ bulkD d ≤ Rows.uptoBulk x.1 := by
  intro n
  induction n with
  | zero => intro t sh fuel v x h; simp [shOf] at h
  | succ n ih =>
    intro t sh fuel v x hsh hx
    unfold shOf at hsh
    split at hsh
    · rename_i k hk
      simp at hsh; subst hsh
      obtain ⟨m, hm, hxe, hw⟩ := DataW.trod_int hk hx
      simp at hm; subst hm; subst hxe
      exact ⟨_, .int hw, Nat.le_refl _⟩
    · rename_i hk
      simp at hsh; subst hsh
      obtain ⟨b, hb, hxe⟩ := DataW.trod_bool hk hx
      simp at hb; subst hb; subst hxe
      exact ⟨_, .bool, Nat.le_refl _⟩
    · rename_i hk
      simp at hsh; subst hsh
      obtain ⟨s, hs, hxe, hm⟩ := DataW.trod_string hk hx
      simp at hs; subst hs; subst hxe
      exact ⟨_, .str hm, by simp only [bulkD, Rows.uptoBulk, Array.length_toList]; exact Nat.le_refl _⟩
    · rename_i e hk
      rcases open_slice hk hx with ⟨hcs, hxe⟩ | ⟨a, len, cap, m, fu, D, Pl, hcs, _, hl, hm, hmm, hxe, hi⟩
      · -- nil
        simp at hcs; subst hcs
        have : ∃ fs, sh = .sl fs := by
          split at hsh
          · split at hsh
            · obtain ⟨fs, _, e⟩ := Option.map_eq_some_iff.1 hsh; exact ⟨fs, e.symm⟩
            · cases hsh
          · split at hsh
            · obtain ⟨s, _, e⟩ := Option.map_eq_some_iff.1 hsh; exact ⟨[s], e.symm⟩
            · cases hsh
        obtain ⟨fs, rfl⟩ := this
        exact ⟨.sl [], .sl (fun _ _ => default) (fun _ => rfl) (Nat.le_refl _) (Nat.zero_le _) rfl (by simp) (by simp) (by simp), by subst hxe; simp [bulkD, bulkRs, Rows.uptoBulk]⟩
      · simp at hcs; subst hcs
        have hlm : len ≤ m := by rw [hmm]; split <;> omega
        -- each element's cells, and what each reads as
        have key : ∀ (fs : List Sh) (q : Nat), sh = .sl fs → P.cellsOf e = q → q = fs.length →
            (∀ (cs : List Value) (y : DataW H × List MemPlace) (fu : Nat), cs.length = q → DataW.trod enc P w base spare held fu e cs = some y → ∃ row : List Dt, row.length = fs.length ∧ bulkR row ≤ Rows.uptoBulk y.1 ∧ ∀ (j : Nat) (s : Sh) (u : Value), fs[j]? = some s → cs[j]? = some u → ∃ d, row[j]? = some d ∧ Reads w s u d) → ∃ d, Reads w sh (.slice (some a) len cap) d ∧ bulkD d ≤ Rows.uptoBulk x.1 := by
          intro fs q hs hq hqf hel
          subst hs hqf
          have hrow : ∀ i, i < len → ∃ row : List (Value × Dt), (row.length = fs.length ∧ bulkR (row.map (·.2)) ≤ Rows.uptoBulk (D i)) ∧ ∀ (j : Nat) (p : Value × Dt), row[j]? = some p → w.cell? (a.add (i * fs.length + j)) = some p.1 ∧ ∀ s, fs[j]? = some s → Reads w s p.1 p.2 := by
            intro i hi1
            obtain ⟨cs', hcells, ht⟩ := hi i (by omega)
            rw [hq] at hcells
            obtain ⟨_, hcl, hat⟩ := World.cells?_some hcells
            obtain ⟨row0, r1, r2, r3⟩ := hel cs' _ fu hcl ht
            refine ⟨cs'.zip row0, ⟨by rw [List.length_zip, hcl, r1, Nat.min_self], ?_⟩, fun j p hp => ?_⟩
            · rw [List.map_snd_zip (by omega)]; exact r2
            · obtain ⟨hp1, hp2⟩ := List.getElem?_zip_eq_some.1 hp
              have hj : j < fs.length := by have := (List.getElem?_eq_some_iff.1 hp1).1; omega
              refine ⟨?_, fun s hs => ?_⟩
              · have hc := hat j (by omega)
                rw [Go.Deep.add_add, ← hq, hq] at hc
                rw [hc]; exact hp1
              · obtain ⟨d, hd1, hd2⟩ := r3 j s p.1 hs hp1
                rw [hp2] at hd1; cases hd1; exact hd2
          obtain ⟨R, hR, hRp⟩ := exists_rows len _ hrow
          refine ⟨.sl (R.map fun row => row.map (·.2)), .sl (fun i j => ((R.getD i []).getD j (default, .bool false)).1) (by simp) hl hm (by simp [hR]) (fun i hi1 => ?_) (fun i j hi1 hj => ?_) (fun i j row s d h1 h2 h3 => ?_), ?_⟩
          · have hRi : R[i]? = some (R[i]'(by omega)) := List.getElem?_eq_getElem (by omega)
            refine ⟨_, by simp [hRi]; rfl, ?_⟩
            simp [(hRp i _ hRi).1.1]
          · have hRi : R[i]? = some (R[i]'(by omega)) := List.getElem?_eq_getElem (by omega)
            obtain ⟨⟨hl1, -⟩, hp⟩ := hRp i _ hRi
            have hj' : (R[i]'(by omega))[j]? = some ((R[i]'(by omega))[j]'(by omega)) := List.getElem?_eq_getElem (by omega)
            refine ⟨a, rfl, ?_⟩
            rw [(hp j _ hj').1]
            simp [List.getD, hRi, hj']
          · rw [List.getElem?_map] at h1
            obtain ⟨r, hr, rfl⟩ := Option.map_eq_some_iff.1 h1
            rw [List.getElem?_map] at h3
            obtain ⟨p, hp, rfl⟩ := Option.map_eq_some_iff.1 h3
            have := ((hRp i r hr).2 j p hp).2 s h2
            simpa [List.getD, hr, hp] using this
          · rw [hxe]
            simp only [bulkD, Rows.uptoBulk]
            have := rows_bulk (H := H) D (R.map fun row => row.map (·.2)) 0 (fun i r hr => by
              rw [List.getElem?_map] at hr
              obtain ⟨r0, hr0, rfl⟩ := Option.map_eq_some_iff.1 hr
              rw [Nat.zero_add]
              exact (hRp i r0 hr0).1.2)
            rw [List.length_map, hR, ← List.range_eq_range'] at this
            omega
        split at hsh
        · rename_i fs hfs
          split at hsh
          · rename_i hflat
            simp only [Bool.and_eq_true, beq_iff_eq] at hflat
            obtain ⟨shs, hmap, e1⟩ := Option.map_eq_some_iff.1 hsh
            obtain ⟨hlen, hget⟩ := mapM_some _ _ _ hmap
            refine key shs fs.size e1.symm hflat.2 (by simp [hlen]) ?_
            intro cs y fu' hcl ht
            obtain ⟨xs, n', _, hye, _, hxl, hf⟩ := DataW.trod_struct hfs ht
            obtain ⟨row, h1, h2⟩ := exists_rows fs.size (fun j (d : Dt) => (∃ z : DataW H × List MemPlace, xs[j]? = some z ∧ bulkD d ≤ Rows.uptoBulk z.1) ∧ ∀ (s : Sh) (u : Value), shs[j]? = some s → cs[j]? = some u → Reads w s u d) (fun j hj => by
              have hfj : fs[j]? = some fs[j] := Array.getElem?_eq_getElem hj
              have hfl : fs.toList[j]? = some fs[j] := by simp [hfj]
              obtain ⟨s', hs', hsh'⟩ := hget j _ hfl
              have hfo : fs[j].offset = j ∧ P.cellsOf fs[j].type = 1 := by
                have := List.all_eq_true.1 hflat.1 j (by simpa using hj)
                rw [hfl] at this
                simpa using this
              have h1 := hf j _ hfj
              rw [hfo.1, hfo.2] at h1
              have hjc : j < cs.length := by rw [hcl]; exact hj
              have hone : (cs.drop j).take 1 = [cs[j]] := by
                rw [List.drop_eq_getElem_cons hjc]; rfl
              rw [hone] at h1
              have hx1 : xs[j]? = some (xs[j]'(by omega)) := List.getElem?_eq_getElem (by omega)
              rw [hx1] at h1
              obtain ⟨d, hd1, hd2⟩ := ih _ _ _ _ _ hsh' h1
              refine ⟨d, ⟨_, hx1, hd2⟩, fun s u hs hu => ?_⟩
              rw [hs'] at hs; cases hs
              rw [List.getElem?_eq_getElem hjc] at hu; cases hu
              exact hd1)
            refine ⟨row, by rw [h1, hlen, Array.length_toList], ?_, fun j s u hs hu => ?_⟩
            · rw [hye]
              simp only [Rows.uptoBulk]
              have := row_bulk (H := H) row (xs.map (·.1)) (by rw [List.length_map, h1, hxl]) (fun j d hd => by
                obtain ⟨⟨z, hz, hb⟩, -⟩ := h2 j d hd
                exact ⟨z.1, by rw [List.getElem?_map, hz]; rfl, hb⟩)
              omega
            · have hj : j < row.length := by
                have := (List.getElem?_eq_some_iff.1 hu).1; rw [hcl] at this; omega
              exact ⟨_, List.getElem?_eq_getElem hj, (h2 j _ (List.getElem?_eq_getElem hj)).2 s u hs hu⟩
          · cases hsh
        · split at hsh
          · rename_i h1c
            simp only [beq_iff_eq] at h1c
            obtain ⟨s0, hs0, e1⟩ := Option.map_eq_some_iff.1 hsh
            refine key [s0] 1 e1.symm h1c rfl ?_
            intro cs y fu' hcl ht
            match cs, hcl with
            | [c0], _ =>
              obtain ⟨d, hd1, hd2⟩ := ih _ _ _ _ _ hs0 ht
              refine ⟨[d], rfl, by simpa [bulkR] using hd2, fun j s u hs hu => ?_⟩
              have hj : j = 0 := by
                have := (List.getElem?_eq_some_iff.1 hu).1; simpa using this
              subst hj
              simp at hs hu; subst hs hu
              exact ⟨d, rfl, hd1⟩
          · cases hsh
    · cases hsh
end
end Go.Proofs.Yteodhnblbehenaa
namespace Go.Proofs.Yteodhnblbehenaa
open Go.RowKit Tcl PTclParses YteodhnblbehenaaW.PrintWords
theorem rows_sum {α : Type} (cost : α → Nat) : ∀ (ys : List α) (rows : List (List Dt)), ys.length = rows.length → (∀ (i : Nat) (y : α) (row : List Dt), ys[i]? = some y → rows[i]? = some row → cost y ≤ 4 * bulkR row) → (ys.map cost).sum ≤ 4 * bulkRs rows := by
  intro ys
  induction ys with
  | nil => intro rows _ _; simp
  | cons y ys ih =>
    intro rows hl h
    cases rows with
    | nil => simp at hl
    | cons r rows =>
      have h0 := h 0 y r rfl rfl
      have := ih rows (by simpa using hl) (fun i y row h1 h2 => h (i + 1) y row h1 h2)
      simp only [List.map_cons, List.sum_cons, bulkRs]; omega
theorem kd_of_reads {α : Type} {d : Kd α} {w : World} {fs : List Sh} (hsz : d.sz = fs.length) (hf : 0 < fs.length) (cost : α → Nat)
    (key : ∀ (row : List Dt) (us : Nat → Value), row.length = fs.length → (∀ j s x, fs[j]? = some s → row[j]? = some x → Reads w s (us j) x) → ∃ y, d.K w y ((List.range fs.length).map us) ∧ cost y ≤ 4 * bulkR row)
    {v : Value} {dt : Dt} (h : Reads w (.sl fs) v dt) : ∃ A c ys, v = .slice A (List.length ys) c ∧ List.length ys ≤ c ∧ c ≤ maxLen ∧ d.C w A ys.length ys ∧ (ys.map cost).sum + 4 ≤ 4 * bulkD dt := by
  cases h with
  | @sl fs A n c rows u h0 h1 h2 hl hw hc hr =>
    obtain ⟨ys, hy1, hy2⟩ := exists_rows n (fun i (y : α) => d.K w y ((List.range fs.length).map (u i)) ∧ ∀ row, rows[i]? = some row → cost y ≤ 4 * bulkR row) (fun i hi => by
      obtain ⟨row, hr1, hr2⟩ := hw i hi
      obtain ⟨y, k1, k2⟩ := key row (u i) hr2 (fun j s x h1 h2 => hr i j row s x hr1 h1 h2)
      exact ⟨y, k1, fun row' h' => by rw [hr1] at h'; cases h'; exact k2⟩)
    subst hy1
    refine ⟨A, c, ys, rfl, h1, h2, ⟨rfl, by unfold maxLen at h2; omega, fun hn => ?_⟩, ?_⟩
    · obtain ⟨a, ha, -⟩ := hc 0 0 hn hf
      refine ⟨a, ha, fun j y hj => ?_⟩
      refine ⟨_, by rw [List.length_map, List.length_range, hsz], (hy2 j y hj).1, fun i x hx => ?_⟩
      have hjl : j < ys.length := (List.getElem?_eq_some_iff.1 hj).1
      have hil : i < fs.length := by have := (List.getElem?_eq_some_iff.1 hx).1; simpa using this
      obtain ⟨a', ha', hcell⟩ := hc j i hjl hil
      rw [ha] at ha'; cases ha'
      rw [hsz, hcell]
      rw [List.getElem?_map, List.getElem?_range hil] at hx
      exact hx
    · have := rows_sum cost ys rows (by omega) (fun i y row hi hrow => (hy2 i y hi).2 row hrow)
      simp only [bulkD]; omega
def costp (p : S41) : Nat := 4 * (pkey p).2.length + 1
def costw (x : S38) : Nat := (x.f2.map costp).sum + 4
def costc (x : S33) : Nat := (x.f1.map costw).sum + 1
theorem costw_eq (x : S38) : costW (wkey x) = costw x := by
  unfold costW costw costK wkey
  rw [List.map_map]; rfl
theorem costc_eq (x : S33) : costC (ckey x) = costc x := by
  unfold costC costc ckey
  rw [List.map_map]
  congr 2
  exact List.map_congr_left fun y _ => costw_eq y
theorem costl_eq (l : List S33) : costL (l.map ckey) = (l.map costc).sum := by
  unfold costL
  rw [List.map_map]
  congr 1
  exact List.map_congr_left fun y _ => costc_eq y
theorem parts_of_reads {w : World} {v : Value} {dt : Dt} (h : Reads w (.sl [.bool, .str]) v dt) : ∃ A c ys, v = .slice A (List.length ys) c ∧ List.length ys ≤ c ∧ c ≤ maxLen ∧ k41.C w A ys.length ys ∧ (ys.map costp).sum + 4 ≤ 4 * bulkD dt :=
  kd_of_reads (d := k41) rfl (by decide) costp (fun row us hl hr => by
    match row, hl with
    | [d0, d1], _ =>
      have r0 := hr 0 _ _ rfl rfl
      have r1 := hr 1 _ _ rfl rfl
      obtain ⟨b, e0⟩ : ∃ b, us 0 = .bool b := by cases h0 : us 0 <;> rw [h0] at r0 <;> cases r0; exact ⟨_, rfl⟩
      obtain ⟨s, e1, e2⟩ : ∃ s, us 1 = .string s ∧ d1 = .str s := by
        generalize us 1 = z at r1
        cases r1
        exact ⟨_, rfl, rfl⟩
      refine ⟨⟨b, s⟩, ?_, ?_⟩
      · show k41.K w _ [us 0, us 1]
        rw [e0, e1]; exact k41_mk w ⟨b, s⟩
      · subst e2
        have : (pkey ⟨b, s⟩).2.length = s.size := by show s.data.toList.length = _; rw [Array.length_toList]; rfl
        unfold costp
        rw [this]
        simp only [bulkR, bulkD]; omega) h
theorem words_of_reads {w : World} {v : Value} {dt : Dt} (h : Reads w (.sl [.int .i64, .int .i64, .sl [.bool, .str]]) v dt) : ∃ A c ys, v = .slice A (List.length ys) c ∧ List.length ys ≤ c ∧ c ≤ maxLen ∧ k38.C w A ys.length ys ∧ (ys.map costw).sum + 4 ≤ 4 * bulkD dt :=
  kd_of_reads (d := k38) rfl (by decide) costw (fun row us hl hr => by
    match row, hl with
    | [d0, d1, d2], _ =>
      obtain ⟨n0, e0, -⟩ := i64_of_reads (hr 0 _ _ rfl rfl)
      obtain ⟨n1, e1, -⟩ := i64_of_reads (hr 1 _ _ rfl rfl)
      obtain ⟨A, c, ps, e2, hc1, -, hk, hcost⟩ := parts_of_reads (hr 2 _ _ rfl rfl)
      refine ⟨⟨n0, n1, ps⟩, ?_, ?_⟩
      · show k38.K w _ [us 0, us 1, us 2]
        rw [e0, e1, e2]; exact k38_mk w ⟨n0, n1, ps⟩ hc1 hk
      · unfold costw
        simp only [bulkR]; omega) h
theorem cmds_of_reads {w : World} {v : Value} {dt : Dt} (h : Reads w (.sl [.int .i64, .sl [.int .i64, .int .i64, .sl [.bool, .str]]]) v dt) : ∃ A c ys, v = .slice A (List.length ys) c ∧ List.length ys ≤ c ∧ c ≤ maxLen ∧ k33.C w A ys.length ys ∧ costL (ys.map ckey) + 4 ≤ 4 * bulkD dt := by
  obtain ⟨A, c, ys, h1, h2, h3, h4, h5⟩ := kd_of_reads (d := k33) (fs := [.int .i64, .sl [.int .i64, .int .i64, .sl [.bool, .str]]]) rfl (by decide) costc (fun row us hl hr => by
    match row, hl with
    | [d0, d1], _ =>
      obtain ⟨n0, e0, -⟩ := i64_of_reads (hr 0 _ _ rfl rfl)
      obtain ⟨A, c, ws, e1, hc1, -, hk, hcost⟩ := words_of_reads (hr 1 _ _ rfl rfl)
      refine ⟨⟨n0, ws⟩, ?_, ?_⟩
      · show k33.K w _ [us 0, us 1]
        rw [e0, e1]; exact k33_mk w ⟨n0, ws⟩ hc1 hk
      · unfold costc
        simp only [bulkR]; omega) h
  exact ⟨A, c, ys, h1, h2, h3, h4, by rw [costl_eq]; exact h5⟩
end Go.Proofs.Yteodhnblbehenaa
namespace Go.Proofs.Yteodhnblbehenaa
open Go.RowKit Tcl PTclParses YteodhnblbehenaaW.PrintWords
theorem keys_step {α β : Type} [DecidableEq β] (f : α → β) {l m : List α} {i : Nat} (hl : i < l.length) (hm : i < m.length) : decide ((l.drop i).map f = (m.drop i).map f) = (decide (f l[i] = f m[i]) && decide ((l.drop (i + 1)).map f = (m.drop (i + 1)).map f)) := by
  rw [List.drop_eq_getElem_cons hl, List.drop_eq_getElem_cons hm, List.map_cons, List.map_cons]
  simp only [List.cons.injEq]
  by_cases h1 : f l[i] = f m[i]
  · by_cases h2 : (l.drop (i + 1)).map f = (m.drop (i + 1)).map f
    · simp [h1, h2]
    · simp [h1, h2]
  · simp [h1]
theorem keys_len {α β : Type} [DecidableEq β] (f : α → β) {l m : List α} (h : l.length ≠ m.length) : decide (l.map f = m.map f) = false := by
  apply decide_eq_false
  intro e
  have := congrArg List.length e
  simp at this
  exact h this
theorem run_neq_part (W : World) (x y : S41) : (binOp .neq 41 (.agg #[.bool x.f0, .string x.f1]) (.agg #[.bool y.f0, .string y.f1])).run Try.prog W = .ok (.bool (!decide (pkey x = pkey y))) W := by
  have h := eqA41 9998 W x.f0 y.f0 x.f1 y.f1
  have e : (!(x.f0 == y.f0 && (x.f1.toList == y.f1.toList))) = !decide (pkey x = pkey y) := by rw [← part_eq, Bool.not_and]
  simp only [binOp]
  simp only [Op.equal, Op.maxDepth, Sem.run_bind, Sem.run_pure, h, Result.andThen_ok, e]
set_option maxRecDepth 100000 in
set_option maxHeartbeats 8000000 in
theorem equalp_any (w : World) (A B : Option Addr) (n m c e : Nat) (l k : List S41) (hn : n = l.length) (hm : m = k.length) (h1 : k41.C w A n l) (h2 : k41.C w B m k) (hn9 : n ≤ 9223372036854775807) :
    Calls Try.prog 37 #[.slice A n c, .slice B m e] w fun e w' => e = .returned (.bool (decide (l.map pkey = k.map pkey))) ∧ Chg [] w w' := by
  obtain ⟨b, hb⟩ : ∃ b, decide (l.map pkey = k.map pkey) = b := ⟨_, rfl⟩
  rw [hb]
  by_cases hnm : n = m
  · subst hnm
    replace hb := Lib.hid hb
    replace hn := Lib.hid hn
    replace hm := Lib.hid hm
    replace h1 := Lib.hid h1
    replace h2 := Lib.hid h2
    go_enter Try.func37, Try.ntmps37
    go_wp2_with fail
    go_loopg [13] n (fun gk v13 wr => ∃ i : Nat, v13 = .int .i64 i ∧ i ≤ n ∧ gk = n - i ∧ Hid (b = decide ((l.drop i).map pkey = (k.drop i).map pkey)) ∧ Hid (Chg [] w wr))
    case atStart => exact ⟨0, rfl, by omega, by omega, Lib.hid (by rw [← hb.out]; rfl), Lib.hid (Chg.refl _ _)⟩
    case round =>
      obtain ⟨i, rfl, hi, rfl, hR, hC⟩ := hrel
      by_cases hlt : i < n
      · have hl1 : i < l.length := by have := hn.out; omega
        have hl2 : i < k.length := by have := hm.out; omega
        obtain ⟨ad, rfl, q0, q1⟩ := at_T41 h1.out (i : Int) (by omega) (by omega)
        obtain ⟨bd, rfl, r0, r1⟩ := at_T41 h2.out (i : Int) (by omega) (by omega)
        have ea : rd_T41 l (i : Int) = l[i] := by unfold rd_T41; simp [List.getD, hl1]
        have eb : rd_T41 k (i : Int) = k[i] := by unfold rd_T41; simp [List.getD, hl2]
        rw [ea] at q0 q1
        rw [eb] at r0 r1
        clear ea eb
        simp only [Int.toNat_natCast] at q0 q1 r0 r1
        replace q0 := hC.out.cell q0 (by simp)
        replace q1 := hC.out.cell q1 (by simp)
        replace r0 := hC.out.cell r0 (by simp)
        replace r1 := hC.out.cell r1 (by simp)
        have hR2 := hR.out.trans (keys_step pkey hl1 hl2)
        have hpe := part_eq l[i] k[i]
        generalize l[i] = x at q0 q1 hR2 hpe
        generalize k[i] = y at r0 r1 hR2 hpe
        obtain ⟨d, hd⟩ : ∃ d, decide (pkey x = pkey y) = d := ⟨_, rfl⟩
        rw [hd] at hpe hR2
        replace hR2 := Lib.hid hR2
        replace hd := Lib.hid hd
        clear hR hpe
        have hne : ∀ W : World, (binOp .neq 41 (.agg #[.bool x.f0, .string x.f1]) (.agg #[.bool y.f0, .string y.f1])).run Try.prog W = .ok (.bool (!d)) W := fun W => by rw [run_neq_part, hd.out]
        cases d with
        | false =>
          obtain rfl : b = false := by rw [hR2.out]; rfl
          go_wp2_with fail
          go_quiet (fail)
          go_wp2_with fail
          (try rw [Exit.noGoto_ret])
          go_ret
          exact ⟨rfl, hC.out.drewN _⟩
        | true =>
          have hR3 : Hid (b = decide ((l.drop (i + 1)).map pkey = (k.drop (i + 1)).map pkey)) := Lib.hid (by have := hR2.out; rwa [Bool.true_and] at this)
          go_wp2_with fail
          go_quiet (fail)
          have hC2 := Lib.hid (hC.out.drewN nq)
          go_wp2_with fail
          go_roundg (n - (i + 1))
          case measure => omega
          case rel => exact ⟨i + 1, by go_num, by omega, rfl, hR3, hC2⟩
      · obtain rfl : i = n := by omega
        obtain rfl : b = true := by
          rw [hR.out, List.drop_eq_nil_of_le (by have := hn.out; omega), List.drop_eq_nil_of_le (by have := hm.out; omega)]; rfl
        go_wp2_with fail
        go_ret
        exact ⟨rfl, hC.out⟩
  · have e1 : ((n : Int) != (m : Int)) = true := by simp; omega
    obtain rfl : b = false := by rw [← hb]; exact keys_len pkey (by omega)
    clear hb hn hm h1 h2
    go_enter Try.func37, Try.ntmps37
    go_wp2_with fail
    go_ret
    exact ⟨rfl, Chg.refl _ _⟩
set_option maxRecDepth 100000 in
set_option maxHeartbeats 8000000 in
theorem s2_any (w : World) (a1 k1 a2 k2 : Int) (A B : Option Addr) (n m c e : Nat) (l k : List S41) (hn : n = l.length) (hm : m = k.length) (h1 : k41.C w A n l) (h2 : k41.C w B m k) (hn9 : n ≤ 9223372036854775807) :
    Calls Try.prog 36 #[.agg #[.int .i64 a1, .int .i64 k1, .slice A n c], .agg #[.int .i64 a2, .int .i64 k2, .slice B m e]] w fun e w' => e = .returned (.bool (decide ((k1, l.map pkey) = (k2, k.map pkey)))) ∧ Chg [] w w' := by
  have hA := ((Chg.refl [] w).alloc (.cells #[.int .i64 a1, .int .i64 k1, .slice A n c] 38)).alloc (.cells #[.int .i64 a2, .int .i64 k2, .slice B m e] 38)
  have heq := Lib.hid (equalp_any ((w.alloc (.cells #[.int .i64 a1, .int .i64 k1, .slice A n c] 38)).alloc (.cells #[.int .i64 a2, .int .i64 k2, .slice B m e] 38)) A B n m c e l k hn hm (Kd.C_below h1 hA.below) (Kd.C_below h2 hA.below) hn9)
  replace hA := Lib.hid hA
  clear h1 h2 hn hm
  by_cases hk : k1 = k2
  · have ek : (k1 == k2) = true := by simpa using hk
    obtain ⟨b, hb⟩ : ∃ b, decide (l.map pkey = k.map pkey) = b := ⟨_, rfl⟩
    have hb2 : decide ((k1, l.map pkey) = (k2, k.map pkey)) = b := by rw [← hb]; simp [hk]
    rw [hb2]
    rw [hb] at heq
    clear hb hb2 hk
    go_enter Try.func36, Try.ntmps36
    go_wp2_with fail
    refine (heq.out).mono ?_
    rintro e w' ⟨rfl, hC⟩
    have hC2 := Lib.hid (hA.out.trans hC)
    clear hC heq hA
    go_wp2_with fail
    go_ret
    exact ⟨rfl, hC2.out⟩
  · have ek : (k1 == k2) = false := by rw [beq_eq_false_iff_ne]; exact hk
    have hb2 : decide ((k1, l.map pkey) = (k2, k.map pkey)) = false := decide_eq_false (fun h => hk (by simpa using congrArg Prod.fst h))
    rw [hb2]
    clear heq hb2 hk
    go_enter Try.func36, Try.ntmps36
    go_wp2_with fail
    go_ret
    exact ⟨rfl, hA.out⟩
set_option maxRecDepth 100000 in
set_option maxHeartbeats 8000000 in
theorem eqw_any (w : World) (A B : Option Addr) (n m c e : Nat) (l k : List S38) (hn : n = l.length) (hm : m = k.length) (h1 : k38.C w A n l) (h2 : k38.C w B m k) (hn9 : n ≤ 9223372036854775807) (hs : ∀ x ∈ l, x.f2.length ≤ 9223372036854775807) :
    Calls Try.prog 35 #[.slice A n c, .slice B m e, .func (.func 36) #[] #[]] w fun e w' => e = .returned (.bool (decide (l.map wkey = k.map wkey))) ∧ Chg [] w w' := by
  obtain ⟨b, hb⟩ : ∃ b, decide (l.map wkey = k.map wkey) = b := ⟨_, rfl⟩
  rw [hb]
  by_cases hnm : n = m
  · subst hnm
    replace hb := Lib.hid hb
    replace hn := Lib.hid hn
    replace hm := Lib.hid hm
    replace h1 := Lib.hid h1
    replace h2 := Lib.hid h2
    replace hs := Lib.hid hs
    go_enter Try.func35, Try.ntmps35
    go_wp2_with fail
    go_loopg [17] n (fun gk v17 wr => ∃ i : Nat, v17 = .int .i64 i ∧ i ≤ n ∧ gk = n - i ∧ Hid (b = decide ((l.drop i).map wkey = (k.drop i).map wkey)) ∧ Hid (Chg [] w wr))
    case atStart => exact ⟨0, rfl, by omega, by omega, Lib.hid (by rw [← hb.out]; rfl), Lib.hid (Chg.refl _ _)⟩
    case round =>
      obtain ⟨i, rfl, hi, rfl, hR, hC⟩ := hrel
      by_cases hlt : i < n
      · have hl1 : i < l.length := by have := hn.out; omega
        have hl2 : i < k.length := by have := hm.out; omega
        obtain ⟨ad, A2, c2, rfl, q0, q1, q2, qc, qk⟩ := at_T38 h1.out (i : Int) (by omega) (by omega)
        obtain ⟨bd, B2, e2, rfl, r0, r1, r2, rc, rk⟩ := at_T38 h2.out (i : Int) (by omega) (by omega)
        have ea : rd_T38 l (i : Int) = l[i] := by unfold rd_T38; simp [List.getD, hl1]
        have eb : rd_T38 k (i : Int) = k[i] := by unfold rd_T38; simp [List.getD, hl2]
        rw [ea] at q0 q1 q2 qc qk
        rw [eb] at r0 r1 r2 rc rk
        clear ea eb
        simp only [Int.toNat_natCast] at q0 q1 q2 r0 r1 r2
        have hC1 := hC.out
        replace q0 := hC1.cell q0 (by simp)
        replace q1 := hC1.cell q1 (by simp)
        replace q2 := hC1.cell q2 (by simp)
        have r0a := fun o => (hC1.alloc o).cell r0 (by simp)
        have r1a := fun o => (hC1.alloc o).cell r1 (by simp)
        have r2a := fun o => (hC1.alloc o).cell r2 (by simp)
        have hR2 := hR.out.trans (keys_step wkey hl1 hl2)
        have hsx := hs.out l[i] (List.getElem_mem hl1)
        generalize l[i] = x at q0 q1 q2 qc qk hR2 hsx
        generalize k[i] = y at r0 r1 r2 rc rk r0a r1a r2a hR2
        obtain ⟨xa, xk, xp⟩ := x
        obtain ⟨ya, yk, yp⟩ := y
        simp only at q0 q1 q2 qc qk r0 r1 r2 rc rk r0a r1a r2a hsx
        have hA := (hC1.alloc (.cells #[.int .i64 xa, .int .i64 xk, .slice A2 xp.length c2] 38)).alloc (.cells #[.int .i64 ya, .int .i64 yk, .slice B2 yp.length e2] 38)
        have hcall := s2_any ((wr.alloc (.cells #[.int .i64 xa, .int .i64 xk, .slice A2 xp.length c2] 38)).alloc (.cells #[.int .i64 ya, .int .i64 yk, .slice B2 yp.length e2] 38)) xa xk ya yk A2 B2 xp.length yp.length c2 e2 xp yp rfl rfl (Kd.C_below qk hA.below) (Kd.C_below rk hA.below) hsx
        obtain ⟨d, hd⟩ : ∃ d, decide ((xk, xp.map pkey) = (yk, yp.map pkey)) = d := ⟨_, rfl⟩
        have hd2 : decide (wkey ⟨xa, xk, xp⟩ = wkey ⟨ya, yk, yp⟩) = d := hd
        rw [hd] at hcall
        rw [hd2] at hR2
        obtain ⟨xn, hxn⟩ : ∃ xn, xp.length = xn := ⟨_, rfl⟩
        obtain ⟨yn, hyn⟩ : ∃ yn, yp.length = yn := ⟨_, rfl⟩
        rw [hxn] at q2 hcall hA
        rw [hyn] at r2a hcall hA
        replace hcall := Lib.hid hcall
        replace hA := Lib.hid hA
        replace hR2 := Lib.hid hR2
        clear hR hd hd2 hC1 r0 r1 r2 qc rc qk rk hsx hxn hyn
        go_wp2_with fail
        refine (hcall.out).mono ?_
        rintro e w' ⟨rfl, hC3⟩
        have hC4 := Lib.hid (hA.out.trans hC3)
        clear hC3 hcall hA q0 q1 q2 r0a r1a r2a
        cases d with
        | false =>
          obtain rfl : b = false := by rw [hR2.out]; rfl
          go_wp2_with fail
          (try rw [Exit.noGoto_ret])
          go_ret
          exact ⟨rfl, hC4.out⟩
        | true =>
          have hR3 : Hid (b = decide ((l.drop (i + 1)).map wkey = (k.drop (i + 1)).map wkey)) := Lib.hid (by have := hR2.out; rwa [Bool.true_and] at this)
          go_wp2_with fail
          go_roundg (n - (i + 1))
          case measure => omega
          case rel => exact ⟨i + 1, by go_num, by omega, rfl, hR3, hC4⟩
      · obtain rfl : i = n := by omega
        obtain rfl : b = true := by
          rw [hR.out, List.drop_eq_nil_of_le (by have := hn.out; omega), List.drop_eq_nil_of_le (by have := hm.out; omega)]; rfl
        go_wp2_with fail
        go_ret
        exact ⟨rfl, hC.out⟩
  · have e1 : ((n : Int) != (m : Int)) = true := by simp; omega
    obtain rfl : b = false := by rw [← hb]; exact keys_len wkey (by omega)
    clear hb hn hm h1 h2
    go_enter Try.func35, Try.ntmps35
    go_wp2_with fail
    go_ret
    exact ⟨rfl, Chg.refl _ _⟩
set_option maxRecDepth 100000 in
set_option maxHeartbeats 8000000 in
theorem s1_any (w : World) (a1 a2 : Int) (A B : Option Addr) (n m c e : Nat) (l k : List S38) (hn : n = l.length) (hm : m = k.length) (h1 : k38.C w A n l) (h2 : k38.C w B m k) (hn9 : n ≤ 9223372036854775807) (hs : ∀ x ∈ l, x.f2.length ≤ 9223372036854775807) :
    Calls Try.prog 34 #[.agg #[.int .i64 a1, .slice A n c], .agg #[.int .i64 a2, .slice B m e]] w fun e w' => e = .returned (.bool (decide (l.map wkey = k.map wkey))) ∧ Chg [] w w' := by
  have hA := ((Chg.refl [] w).alloc (.cells #[.int .i64 a1, .slice A n c] 33)).alloc (.cells #[.int .i64 a2, .slice B m e] 33)
  have heq := Lib.hid (eqw_any ((w.alloc (.cells #[.int .i64 a1, .slice A n c] 33)).alloc (.cells #[.int .i64 a2, .slice B m e] 33)) A B n m c e l k hn hm (Kd.C_below h1 hA.below) (Kd.C_below h2 hA.below) hn9 hs)
  replace hA := Lib.hid hA
  clear h1 h2 hn hm hs
  obtain ⟨b, hb⟩ : ∃ b, decide (l.map wkey = k.map wkey) = b := ⟨_, rfl⟩
  rw [hb] at heq ⊢
  clear hb
  go_enter Try.func34, Try.ntmps34
  go_wp2_with fail
  refine (heq.out).mono ?_
  rintro e w' ⟨rfl, hC⟩
  have hC2 := Lib.hid (hA.out.trans hC)
  clear hC heq hA
  go_wp2_with fail
  go_ret
  exact ⟨rfl, hC2.out⟩
set_option maxRecDepth 100000 in
set_option maxHeartbeats 8000000 in
theorem eqc_any (w : World) (A B : Option Addr) (n m c e : Nat) (l k : List S33) (hn : n = l.length) (hm : m = k.length) (h1 : k33.C w A n l) (h2 : k33.C w B m k) (hn9 : n ≤ 9223372036854775807) (hs : ∀ x ∈ l, x.f1.length ≤ 9223372036854775807 ∧ ∀ y ∈ x.f1, y.f2.length ≤ 9223372036854775807) :
    Calls Try.prog 33 #[.slice A n c, .slice B m e, .func (.func 34) #[] #[]] w fun e w' => e = .returned (.bool (decide (l.map ckey = k.map ckey))) ∧ Chg [] w w' := by
  obtain ⟨b, hb⟩ : ∃ b, decide (l.map ckey = k.map ckey) = b := ⟨_, rfl⟩
  rw [hb]
  by_cases hnm : n = m
  · subst hnm
    replace hb := Lib.hid hb
    replace hn := Lib.hid hn
    replace hm := Lib.hid hm
    replace h1 := Lib.hid h1
    replace h2 := Lib.hid h2
    replace hs := Lib.hid hs
    go_enter Try.func33, Try.ntmps33
    go_wp2_with fail
    go_loopg [17] n (fun gk v17 wr => ∃ i : Nat, v17 = .int .i64 i ∧ i ≤ n ∧ gk = n - i ∧ Hid (b = decide ((l.drop i).map ckey = (k.drop i).map ckey)) ∧ Hid (Chg [] w wr))
    case atStart => exact ⟨0, rfl, by omega, by omega, Lib.hid (by rw [← hb.out]; rfl), Lib.hid (Chg.refl _ _)⟩
    case round =>
      obtain ⟨i, rfl, hi, rfl, hR, hC⟩ := hrel
      by_cases hlt : i < n
      · have hl1 : i < l.length := by have := hn.out; omega
        have hl2 : i < k.length := by have := hm.out; omega
        obtain ⟨ad, A2, c2, rfl, q0, q2, qc, qk⟩ := at_T33 h1.out (i : Int) (by omega) (by omega)
        obtain ⟨bd, B2, e2, rfl, r0, r2, rc, rk⟩ := at_T33 h2.out (i : Int) (by omega) (by omega)
        have ea : rd_T33 l (i : Int) = l[i] := by unfold rd_T33; simp [List.getD, hl1]
        have eb : rd_T33 k (i : Int) = k[i] := by unfold rd_T33; simp [List.getD, hl2]
        rw [ea] at q0 q2 qc qk
        rw [eb] at r0 r2 rc rk
        clear ea eb
        simp only [Int.toNat_natCast] at q0 q2 r0 r2
        have hC1 := hC.out
        replace q0 := hC1.cell q0 (by simp)
        replace q2 := hC1.cell q2 (by simp)
        have r0a := fun o => (hC1.alloc o).cell r0 (by simp)
        have r2a := fun o => (hC1.alloc o).cell r2 (by simp)
        have hR2 := hR.out.trans (keys_step ckey hl1 hl2)
        have hsx := hs.out l[i] (List.getElem_mem hl1)
        generalize l[i] = x at q0 q2 qc qk hR2 hsx
        generalize k[i] = y at r0 r2 rc rk r0a r2a hR2
        obtain ⟨xa, xp⟩ := x
        obtain ⟨ya, yp⟩ := y
        simp only at q0 q2 qc qk r0 r2 rc rk r0a r2a hsx
        have hA := (hC1.alloc (.cells #[.int .i64 xa, .slice A2 xp.length c2] 33)).alloc (.cells #[.int .i64 ya, .slice B2 yp.length e2] 33)
        have hcall := s1_any ((wr.alloc (.cells #[.int .i64 xa, .slice A2 xp.length c2] 33)).alloc (.cells #[.int .i64 ya, .slice B2 yp.length e2] 33)) xa ya A2 B2 xp.length yp.length c2 e2 xp yp rfl rfl (Kd.C_below qk hA.below) (Kd.C_below rk hA.below) hsx.1 hsx.2
        obtain ⟨d, hd⟩ : ∃ d, decide (xp.map wkey = yp.map wkey) = d := ⟨_, rfl⟩
        have hd2 : decide (ckey ⟨xa, xp⟩ = ckey ⟨ya, yp⟩) = d := hd
        rw [hd] at hcall
        rw [hd2] at hR2
        obtain ⟨xn, hxn⟩ : ∃ xn, xp.length = xn := ⟨_, rfl⟩
        obtain ⟨yn, hyn⟩ : ∃ yn, yp.length = yn := ⟨_, rfl⟩
        rw [hxn] at q2 hcall hA
        rw [hyn] at r2a hcall hA
        replace hcall := Lib.hid hcall
        replace hA := Lib.hid hA
        replace hR2 := Lib.hid hR2
        clear hR hd hd2 hC1 r0 r2 qc rc qk rk hsx hxn hyn
        go_wp2_with fail
        refine (hcall.out).mono ?_
        rintro e w' ⟨rfl, hC3⟩
        have hC4 := Lib.hid (hA.out.trans hC3)
        clear hC3 hcall hA q0 q2 r0a r2a
        cases d with
        | false =>
          obtain rfl : b = false := by rw [hR2.out]; rfl
          go_wp2_with fail
          (try rw [Exit.noGoto_ret])
          go_ret
          exact ⟨rfl, hC4.out⟩
        | true =>
          have hR3 : Hid (b = decide ((l.drop (i + 1)).map ckey = (k.drop (i + 1)).map ckey)) := Lib.hid (by have := hR2.out; rwa [Bool.true_and] at this)
          go_wp2_with fail
          go_roundg (n - (i + 1))
          case measure => omega
          case rel => exact ⟨i + 1, by go_num, by omega, rfl, hR3, hC4⟩
      · obtain rfl : i = n := by omega
        obtain rfl : b = true := by
          rw [hR.out, List.drop_eq_nil_of_le (by have := hn.out; omega), List.drop_eq_nil_of_le (by have := hm.out; omega)]; rfl
        go_wp2_with fail
        go_ret
        exact ⟨rfl, hC.out⟩
  · have e1 : ((n : Int) != (m : Int)) = true := by simp; omega
    obtain rfl : b = false := by rw [← hb]; exact keys_len ckey (by omega)
    clear hb hn hm h1 h2
    go_enter Try.func33, Try.ntmps33
    go_wp2_with fail
    go_ret
    exact ⟨rfl, Chg.refl _ _⟩
set_option maxRecDepth 100000 in
set_option maxHeartbeats 8000000 in
theorem tsame_any (w : World) (A B : Option Addr) (n m c e : Nat) (l k : List S33) (hn : n = l.length) (hm : m = k.length) (h1 : k33.C w A n l) (h2 : k33.C w B m k) :
    Calls Try.prog 19 #[.slice A n c, .slice B m e] w fun e w' => e = .returned (.bool (decide (l.map ckey = k.map ckey))) ∧ Chg [] w w' := by
  have hf := kd_fine h1
  have heq := Lib.hid (eqc_any w A B n m c e l k hn hm h1 h2 (by rw [hn]; exact hf.1) hf.2)
  clear h1 h2 hn hm hf
  obtain ⟨b, hb⟩ : ∃ b, decide (l.map ckey = k.map ckey) = b := ⟨_, rfl⟩
  rw [hb] at heq ⊢
  clear hb
  go_enter Try.func19, Try.ntmps19
  go_wp2_with fail
  refine (heq.out).mono ?_
  rintro e w' ⟨rfl, hC⟩
  replace hC := Lib.hid hC
  clear heq
  go_wp2_with fail
  go_ret
  exact ⟨rfl, hC.out⟩
end Go.Proofs.Yteodhnblbehenaa
namespace Go.Proofs.Yteodhnblbehenaa
open Go.RowKit Tcl PTclParses YteodhnblbehenaaW.PrintWords
namespace Rt
set_option maxRecDepth 100000 in
set_option maxHeartbeats 8000000 in
theorem rplain_any (c : UInt8) (b : Bool) (hb : plainB c = b) (w : World) : Calls Try.prog 63 #[.int .u8 c.toNat] w fun e w' => e = .returned (.bool b) ∧ w' = w := by
  have hp := plain_b c
  rw [hb] at hp
  by_cases h1 : c.toNat < 32
  · have d1 : decide ((c.toNat : Int) < 32) = true := by simp; omega
    obtain rfl : b = false := by rw [hp, decide_eq_false (by omega)]; simp
    clear hp hb
    go_enter Try.func63, Try.ntmps63
    go_wp2_with fail
    go_ret
    exact ⟨rfl, rfl⟩
  have d1 : decide ((c.toNat : Int) < 32) = false := by simp; omega
  by_cases h2 : 126 < c.toNat
  · have d2 : decide ((c.toNat : Int) > 126) = true := by simp; omega
    obtain rfl : b = false := by rw [hp, decide_eq_false (show ¬ c.toNat ≤ 126 by omega)]; simp
    clear hp hb
    go_enter Try.func63, Try.ntmps63
    go_wp2_with fail
    go_ret
    exact ⟨rfl, rfl⟩
  have d2 : decide ((c.toNat : Int) > 126) = false := by simp; omega
  replace hp := Lib.hid hp
  replace hb := Lib.hid hb
  by_cases h34 : c = 34
  · subst h34
    obtain rfl : b = false := by rw [← hb.out]; rfl
    clear hp hb d1 d2 h1 h2
    go_enter Try.func63, Try.ntmps63
    go_wp2_with fail
    go_ret
    exact ⟨rfl, rfl⟩
  have n34 : ((c.toNat : Int) != 34) = true := by simp only [bne]; rw [show ((c.toNat : Int) == 34) = false from u8n (n := 34) h34]; rfl
  by_cases h35 : c = 35
  · subst h35
    obtain rfl : b = false := by rw [← hb.out]; rfl
    clear hp hb d1 d2 h1 h2
    go_enter Try.func63, Try.ntmps63
    go_wp2_with fail
    go_ret
    exact ⟨rfl, rfl⟩
  have n35 : ((c.toNat : Int) != 35) = true := by simp only [bne]; rw [show ((c.toNat : Int) == 35) = false from u8n (n := 35) h35]; rfl
  by_cases h36 : c = 36
  · subst h36
    obtain rfl : b = false := by rw [← hb.out]; rfl
    clear hp hb d1 d2 h1 h2
    go_enter Try.func63, Try.ntmps63
    go_wp2_with fail
    go_ret
    exact ⟨rfl, rfl⟩
  have n36 : ((c.toNat : Int) != 36) = true := by simp only [bne]; rw [show ((c.toNat : Int) == 36) = false from u8n (n := 36) h36]; rfl
  by_cases h59 : c = 59
  · subst h59
    obtain rfl : b = false := by rw [← hb.out]; rfl
    clear hp hb d1 d2 h1 h2
    go_enter Try.func63, Try.ntmps63
    go_wp2_with fail
    go_ret
    exact ⟨rfl, rfl⟩
  have n59 : ((c.toNat : Int) != 59) = true := by simp only [bne]; rw [show ((c.toNat : Int) == 59) = false from u8n (n := 59) h59]; rfl
  by_cases h91 : c = 91
  · subst h91
    obtain rfl : b = false := by rw [← hb.out]; rfl
    clear hp hb d1 d2 h1 h2
    go_enter Try.func63, Try.ntmps63
    go_wp2_with fail
    go_ret
    exact ⟨rfl, rfl⟩
  have n91 : ((c.toNat : Int) != 91) = true := by simp only [bne]; rw [show ((c.toNat : Int) == 91) = false from u8n (n := 91) h91]; rfl
  by_cases h92 : c = 92
  · subst h92
    obtain rfl : b = false := by rw [← hb.out]; rfl
    clear hp hb d1 d2 h1 h2
    go_enter Try.func63, Try.ntmps63
    go_wp2_with fail
    go_ret
    exact ⟨rfl, rfl⟩
  have n92 : ((c.toNat : Int) != 92) = true := by simp only [bne]; rw [show ((c.toNat : Int) == 92) = false from u8n (n := 92) h92]; rfl
  by_cases h93 : c = 93
  · subst h93
    obtain rfl : b = false := by rw [← hb.out]; rfl
    clear hp hb d1 d2 h1 h2
    go_enter Try.func63, Try.ntmps63
    go_wp2_with fail
    go_ret
    exact ⟨rfl, rfl⟩
  have n93 : ((c.toNat : Int) != 93) = true := by simp only [bne]; rw [show ((c.toNat : Int) == 93) = false from u8n (n := 93) h93]; rfl
  by_cases h123 : c = 123
  · subst h123
    obtain rfl : b = false := by rw [← hb.out]; rfl
    clear hp hb d1 d2 h1 h2
    go_enter Try.func63, Try.ntmps63
    go_wp2_with fail
    go_ret
    exact ⟨rfl, rfl⟩
  have n123 : ((c.toNat : Int) != 123) = true := by simp only [bne]; rw [show ((c.toNat : Int) == 123) = false from u8n (n := 123) h123]; rfl
  by_cases h125 : c = 125
  · subst h125
    obtain rfl : b = false := by rw [← hb.out]; rfl
    clear hp hb d1 d2 h1 h2
    go_enter Try.func63, Try.ntmps63
    go_wp2_with fail
    go_ret
    exact ⟨rfl, rfl⟩
  have n125 : ((c.toNat : Int) != 125) = true := by simp only [bne]; rw [show ((c.toNat : Int) == 125) = false from u8n (n := 125) h125]; rfl
  obtain rfl : b = true := by
    rw [hp.out, decide_eq_true (by omega), decide_eq_true (by omega)]
    have k : ∀ x : UInt8, c ≠ x → (x == c) = false := fun x h => beq_eq_false_iff_ne.2 (Ne.symm h)
    show (true && true && !(((34 : UInt8) == c) || (((35 : UInt8) == c) || (((36 : UInt8) == c) || (((59 : UInt8) == c) || (((91 : UInt8) == c) || (((92 : UInt8) == c) || (((93 : UInt8) == c) || (((123 : UInt8) == c) || (((125 : UInt8) == c) || false)))))))))) = true
    rw [k _ h34, k _ h35, k _ h36, k _ h59, k _ h91, k _ h92, k _ h93, k _ h123, k _ h125]
    rfl
  clear hp hb
  go_enter Try.func63, Try.ntmps63
  go_wp2_with fail
  go_ret
  exact ⟨rfl, rfl⟩
theorem roct_ints : ∀ x : Fin 256, (48 + (x.val : Int) / 64) % 256 = ((48 + UInt8.ofNat x.val / 64).toNat : Int) ∧ 48 + (x.val : Int) / 8 % 8 = ((48 + UInt8.ofNat x.val / 8 % 8).toNat : Int) ∧ 48 + (x.val : Int) % 8 = ((48 + UInt8.ofNat x.val % 8).toNat : Int) := by decide +kernel
theorem roct_int (c : UInt8) : (48 + (c.toNat : Int) / 64) % 256 = ((48 + c / 64).toNat : Int) ∧ 48 + (c.toNat : Int) / 8 % 8 = ((48 + c / 8 % 8).toNat : Int) ∧ 48 + (c.toNat : Int) % 8 = ((48 + c % 8).toNat : Int) := by
  have := roct_ints ⟨c.toNat, c.toNat_lt⟩
  simp only [UInt8.ofNat_toNat] at this
  exact this
set_option maxRecDepth 100000 in
set_option maxHeartbeats 4000000 in
theorem roctal_any (c : UInt8) (w : World) : Calls Try.prog 64 #[.int .u8 c.toNat] w fun e w' => e = .returned (.string (bstr (octB c))) ∧ Chg [] w w' := by
  obtain ⟨e1, e2, e3⟩ := roct_int c
  have hcv : (convert 35 9 (.slice (some ⟨w.heap.size, 0, none⟩) 4 4)).run Try.prog (w.alloc (.cells #[.int .u8 92, .int .u8 ((48 + c / 64).toNat : Int), .int .u8 ((48 + c / 8 % 8).toNat : Int), .int .u8 ((48 + c % 8).toNat : Int)] 5)) = .ok (.string (bstr (octB c))) (w.alloc (.cells #[.int .u8 92, .int .u8 ((48 + c / 64).toNat : Int), .int .u8 ((48 + c / 8 % 8).toNat : Int), .int .u8 ((48 + c % 8).toNat : Int)] 5)) := by
    have := sl_string (P := Try.prog) (show Sl (w.alloc (.cells #[.int .u8 92, .int .u8 ((48 + c / 64).toNat : Int), .int .u8 ((48 + c / 8 % 8).toNat : Int), .int .u8 ((48 + c % 8).toNat : Int)] 5)) 1 (.slice (some ⟨w.heap.size, 0, none⟩) 4 4) 4 (cellsOf .u8 (nums (octB c))) from sl_new w [.int .u8 92, .int .u8 ((48 + c / 64).toNat : Int), .int .u8 ((48 + c / 8 % 8).toNat : Int), .int .u8 ((48 + c % 8).toNat : Int)] 5 4 rfl (by decide)) 35 5 9 Try.underlying35 Try.underlying5 Try.underlying9
    rwa [str_nums] at this
  rw [← e1, ← e2, ← e3] at hcv
  clear e1 e2 e3
  go_enter Try.func64, Try.ntmps64
  go_wp2_with fail
  go_ret
  exact ⟨rfl, (Chg.refl [] w).alloc _⟩
set_option maxRecDepth 100000 in
set_option maxHeartbeats 4000000 in
theorem rname_any (s : List UInt8) (hs : s.length ≤ 1000000000) (w : World) : Calls Try.prog 51 #[.string (bstr s)] w fun e w' => e = .returned (.bool (!(s.isEmpty || decide (64 < s.length) || !s.all nameB))) ∧ Chg [] w w' := by
  have hsz : (bstr s).size = s.length := rfl
  obtain ⟨B, hB⟩ : ∃ B, bstr s = B := ⟨_, rfl⟩
  have hby : ∀ i (h : i < B.size), s[i]? = some (B[i]'h) := by rw [← hB]; exact fun i h => byte_of h
  rw [hB] at hsz ⊢
  obtain ⟨b, hb⟩ : ∃ b, (!(s.isEmpty || decide (64 < s.length) || !s.all nameB)) = b := ⟨_, rfl⟩
  rw [hb]
  replace hby := Lib.hid hby
  replace hb := Lib.hid hb
  clear hB
  go_enter Try.func51, Try.ntmps51
  go_wp2_with fail
  go_loopg [3] s.length (fun gk v3 wr => ∃ i : Nat, v3 = .int .i64 i ∧ i ≤ s.length ∧ gk = s.length - i ∧ Hid (s.all nameB = (s.drop i).all nameB) ∧ Hid (Chg [] w wr))
  case atStart => exact ⟨0, rfl, by omega, by omega, Lib.hid rfl, Lib.hid (Chg.refl _ _)⟩
  case round =>
    obtain ⟨i, rfl, hi, rfl, hR, hC⟩ := hrel
    by_cases hlt : i < s.length
    · have hlB : i < B.size := by omega
      obtain ⟨c, hc⟩ : ∃ c, B[i]'hlB = c := ⟨_, rfl⟩
      have hsc : s[i]? = some c := by rw [hby.out i hlB, hc]
      have hst : (s.drop i).all nameB = (nameB c && (s.drop (i + 1)).all nameB) := by
        obtain ⟨hl, he⟩ := List.getElem?_eq_some_iff.1 hsc
        rw [List.drop_eq_getElem_cons hl, he, List.all_cons]
      have hR2 := Lib.hid (hR.out.trans hst)
      clear hst hR
      cases hn : nameB c with
      | false =>
        obtain rfl : b = false := by rw [← hb.out, hR2.out, hn]; simp
        have hnm := Lib.hid (name_ref c false hn)
        go_wp2_with fail
        refine (hnm.out _).mono ?_
        rintro e w5 ⟨rfl, hd⟩
        obtain ⟨nd, rfl⟩ := hd.out
        go_wp2_with fail
        (try rw [Exit.noGoto_ret])
        go_ret
        exact ⟨rfl, hC.out.drewN _⟩
      | true =>
        have hR3 : Hid (s.all nameB = (s.drop (i + 1)).all nameB) := Lib.hid (by have := hR2.out; rwa [hn, Bool.true_and] at this)
        have hnm := Lib.hid (name_ref c true hn)
        go_wp2_with fail
        refine (hnm.out _).mono ?_
        rintro e w5 ⟨rfl, hd⟩
        obtain ⟨nd, rfl⟩ := hd.out
        have hC2 := Lib.hid (hC.out.drewN nd)
        go_wp2_with fail
        go_roundg (s.length - (i + 1))
        case measure => omega
        case rel => exact ⟨i + 1, by go_num, by omega, rfl, hR3, hC2⟩
    · obtain rfl : i = s.length := by omega
      have hall : s.all nameB = true := by rw [hR.out, List.drop_length]; rfl
      by_cases h0 : s = []
      · have d1 : decide ((s.length : Int) ≥ 1) = false := by rw [h0]; rfl
        obtain rfl : b = false := by rw [← hb.out, h0]; rfl
        replace h0 := Lib.hid h0
        clear hall
        go_wp2_with fail
        go_ret
        exact ⟨rfl, hC.out⟩
      · have hl0 : s.length ≠ 0 := fun h => h0 (List.eq_nil_of_length_eq_zero h)
        have d1 : decide ((s.length : Int) ≥ 1) = true := by simp; omega
        have hi0 : s.isEmpty = false := by simpa using h0
        by_cases h6 : 64 < s.length
        · have d2 : decide ((s.length : Int) ≤ 64) = false := by simp; omega
          have d2n : decide (s.length ≤ 64) = false := by simp; omega
          obtain rfl : b = false := by rw [← hb.out, hi0, decide_eq_true h6]; rfl
          clear hall hi0
          go_wp2_with fail
          go_ret
          exact ⟨rfl, hC.out⟩
        · have d2 : decide ((s.length : Int) ≤ 64) = true := by simp; omega
          have d2n : decide (s.length ≤ 64) = true := by simp; omega
          obtain rfl : b = true := by rw [← hb.out, hi0, decide_eq_false h6, hall]; rfl
          clear hall hi0
          go_wp2_with fail
          go_ret
          exact ⟨rfl, hC.out⟩
end Rt
end Go.Proofs.Yteodhnblbehenaa
namespace Go.Proofs.Yteodhnblbehenaa
open Go.RowKit Tcl PTclParses YteodhnblbehenaaW.PrintWords
namespace Rt
theorem byte_str (w : World) (c : UInt8) : (convert 35 9 (.slice (some ⟨w.heap.size, 0, none⟩) 1 1)).run Try.prog (w.alloc (.cells #[.int .u8 (c.toNat : Int)] 5)) = .ok (.string (bstr [c])) (w.alloc (.cells #[.int .u8 (c.toNat : Int)] 5)) := by
  have := sl_string (P := Try.prog) (show Sl (w.alloc (.cells #[.int .u8 (c.toNat : Int)] 5)) 1 (.slice (some ⟨w.heap.size, 0, none⟩) 1 1) 1 (cellsOf .u8 (nums [c])) from sl_new w [.int .u8 (c.toNat : Int)] 5 1 rfl (by decide)) 35 5 9 Try.underlying35 Try.underlying5 Try.underlying9
  rwa [str_nums] at this
theorem bstr_app (a b : List UInt8) : bstr a ++ bstr b = bstr (a ++ b) := by
  apply ByteArray.ext
  apply Array.ext'
  simp [bstr]
set_option maxRecDepth 100000 in
set_option maxHeartbeats 8000000 in
theorem rtext_any (w : World) (at_ kd : Int) (A : Option Addr) (n c' : Nat) (ps : List S41) (hn : n = ps.length) (hk : k41.C w A n ps) (i : Nat) (v : Bool) (u : List UInt8) (hp : (ps.map pkey)[i]? = some (v, u)) (hu : u.length ≤ 15000000) (hi : n ≤ 16000000) :
    Calls Try.prog 52 #[.agg #[.int .i64 at_, .int .i64 kd, .slice A n c'], .int .i64 i] w fun e w' => e = .returned (.string (bstr (textB (decide (kd = 0)) (decide (0 < i)) u))) ∧ Chg [] w w' := by
  have hlt : i < n := by
    have := (List.getElem?_eq_some_iff.1 hp).1
    rw [List.length_map] at this; omega
  have hil : i < ps.length := by omega
  obtain ⟨ad, rfl, q1, q2⟩ := at_T41 hk (i : Int) (by omega) (by omega)
  have er : rd_T41 ps (i : Int) = ps[i] := by unfold rd_T41; simp [List.getD, hil]
  rw [er] at q1 q2
  clear er q1
  simp only [Int.toNat_natCast] at q2
  have hpi : (ps.map pkey)[i]? = some (pkey ps[i]) := by rw [List.getElem?_map, List.getElem?_eq_getElem hil]; rfl
  rw [hp] at hpi
  generalize ps[i] = p at q2 hpi
  obtain ⟨vr, st⟩ := p
  simp only at q2
  have hst : st = bstr u := by
    have : u = st.data.toList := congrArg (·.2) (Option.some.inj hpi)
    rw [this]; rfl
  have hsz : st.size = u.length := by rw [hst]; rfl
  have hby : ∀ j (h : j < st.size), u[j]? = some (st[j]'h) := by rw [hst]; exact fun j h => byte_of h
  obtain ⟨k, hk1⟩ : ∃ k, w.heap.size = k := ⟨_, rfl⟩
  have hA := (Chg.refl [] w).alloc (.cells #[.int .i64 at_, .int .i64 kd, .slice (some ad) n c'] 38)
  have hW := blk_new w (.cells #[.int .i64 at_, .int .i64 kd, .slice (some ad) n c'] 38)
  rw [hk1] at hW
  obtain ⟨bare, hbare⟩ : ∃ bare, decide (kd = 0) = bare := ⟨_, rfl⟩
  obtain ⟨behind, hbehind⟩ : ∃ behind, decide (0 < i) = behind := ⟨_, rfl⟩
  have eb : (kd == 0) = bare := by rw [← hbare]; by_cases h : kd = 0 <;> simp [h]
  have ebi : decide ((i : Int) > 0) = behind := by rw [← hbehind]; simp
  rw [hbare, hbehind]
  obtain ⟨R, hR⟩ : ∃ R, textB bare behind u = R := ⟨_, rfl⟩
  rw [hR]
  replace q2 := Lib.hid q2
  replace hR := Lib.hid hR
  replace hby := Lib.hid hby
  replace hW := Lib.hid hW
  replace hA := Lib.hid hA
  replace eb := Lib.hid eb
  replace ebi := Lib.hid ebi
  replace hbehind := Lib.hid hbehind
  clear hst hpi hp hk hn hbare hil
  go_enter Try.func52, Try.ntmps52
  go_upto_block 0 with (fail)
  generalize w.alloc (.cells #[.int .i64 at_, .int .i64 kd, .slice (some ad) n c'] 38) = w1 at hA hW ⊢
  clear hk1
  go_wp2
  go_loopg [5, 6] u.length (fun gk v5 v6 wr => ∃ (j : Nat) (X : List UInt8) (Z : ByteArray), v5 = .string Z ∧ v6 = .int .i64 j ∧ j ≤ u.length ∧ gk = u.length - j ∧ Hid (Z = bstr X) ∧ Z.size ≤ 4 * j ∧ Hid (R = X ++ textB bare (behind && decide (j = 0)) (u.drop j)) ∧ Hid (Chg [] w1 wr))
  case atStart => exact ⟨0, [], _, rfl, rfl, by omega, by omega, Lib.hid rfl, by show 0 ≤ _; omega, Lib.hid (by rw [← hR.out]; simp), Lib.hid (Chg.refl _ _)⟩
  case round =>
    obtain ⟨j, X, Z, rfl, rfl, hj, rfl, hZ, hX, hT, hC⟩ := hrel
    have hWr := Lib.hid (hC.out.heap hW.out (by simp))
    obtain ⟨d1, d2⟩ : wr.cell? ⟨k, 1, none⟩ = some (.int .i64 kd) ∧ wr.cell? ⟨k, 2, none⟩ = some (.slice (some ad) n c') := by have := hWr.out; refine ⟨?_, ?_⟩ <;> simp [World.cell?, this]
    have q2r := (hA.out.trans hC.out).cell q2.out (by simp)
    clear hWr
    by_cases hlj : j < u.length
    · have hlB : j < st.size := by omega
      obtain ⟨c, hc⟩ : ∃ c, st[j]'hlB = c := ⟨_, rfl⟩
      have hsc : u[j]? = some c := by rw [hby.out j hlB, hc]
      obtain ⟨bh, hbh⟩ : ∃ bh, (behind && decide (j = 0)) = bh := ⟨_, rfl⟩
      have hstep : textB bare bh (u.drop j) = escB bare bh c ++ textB bare false (u.drop (j + 1)) := by
        obtain ⟨hl, he⟩ := List.getElem?_eq_some_iff.1 hsc
        rw [List.drop_eq_getElem_cons hl, he, textB]
      rw [hbh] at hT
      have hT2 := hT.out
      rw [hstep, esc_o] at hT2
      obtain ⟨o, ho⟩ : ∃ o, (!plainB c || (bare && c == 32) || (bh && nameB c)) = o := ⟨_, rfl⟩
      rw [ho] at hT2
      replace hT2 := Lib.hid hT2
      replace ho := Lib.hid ho
      replace hbh := Lib.hid hbh
      clear hstep hT
      obtain ⟨pb, hpb⟩ : ∃ pb, plainB c = pb := ⟨_, rfl⟩
      have hpl := Lib.hid (fun w => rplain_any c pb hpb w)
      rw [hpb] at ho
      replace hpb := Lib.hid hpb
      go_upto_region 6 with (fail)
      go_wp2_with fail
      refine (hpl.out _).mono ?_
      rintro e wr ⟨rfl, rfl⟩
      clear hpl
      go_upto_region 7 with (fail)
      clear q2r d2
      have hC7 := hC
      go_cut [52] (fun v52 wx => v52 = .bool o ∧ Hid (Chg [] wr wx))
      case first =>
        have eb2 := eb.out
        clear hT2 hX hC hC7 hZ
        cases pb with
        | false =>
          obtain rfl : o = true := by rw [← ho.out]; simp
          clear ho hbh hpb
          go_wp2_with fail
          go_meet
          exact ⟨rfl, Lib.hid (Chg.refl _ _)⟩
        | true =>
          cases bare with
          | false =>
            clear hpb
            by_cases hj0 : j = 0
            · subst hj0
              cases behind with
              | false =>
                obtain rfl : o = false := by rw [← ho.out, ← hbh.out]; simp
                have ebn := hbehind.out
                have ebi2 := ebi.out
                clear ho hbh
                go_wp2_with fail
                go_meet
                exact ⟨rfl, Lib.hid (Chg.refl _ _)⟩
              | true =>
                have ebn := hbehind.out
                have ebi2 := ebi.out
                obtain ⟨nb, hnb⟩ : ∃ nb, nameB c = nb := ⟨_, rfl⟩
                have hnm := Lib.hid (name_ref c nb hnb)
                obtain rfl : o = nb := by rw [← ho.out, ← hbh.out, hnb]; simp
                clear ho hbh hnb
                go_wp2_with fail
                refine (hnm.out _).mono ?_
                rintro e w8 ⟨rfl, hd⟩
                obtain ⟨nd, rfl⟩ := hd.out
                go_wp2_with fail
                go_meet
                exact ⟨rfl, Lib.hid ((Chg.refl _ _).drewN _)⟩
            · have ej : ((j : Int) == 0) = false := by rw [beq_eq_false_iff_ne]; omega
              obtain rfl : o = false := by rw [← ho.out, ← hbh.out]; simp [hj0]
              clear ho hbh
              go_wp2_with fail
              go_meet
              exact ⟨rfl, Lib.hid (Chg.refl _ _)⟩
          | true =>
            obtain ⟨-, -, -, -, -, -, -, h9, -⟩ := plain_fact hpb.out
            clear hpb
            by_cases h32 : c = 32
            · subst h32
              have hbl := Lib.hid (fun w => blank_ref w 32 true rfl)
              obtain rfl : o = true := by rw [← ho.out]; simp
              clear ho hbh
              go_wp2_with fail
              refine (hbl.out _).mono ?_
              rintro e wr ⟨rfl, rfl⟩
              go_wp2_with fail
              go_meet
              exact ⟨rfl, Lib.hid (Chg.refl _ _)⟩
            · have hbl := Lib.hid (fun w => blank_ref w c false (by unfold blankB; simp [h32, h9]))
              by_cases hj0 : j = 0
              · subst hj0
                cases behind with
                | false =>
                  obtain rfl : o = false := by rw [← ho.out, ← hbh.out]; simp [h32]
                  have ebn := hbehind.out
                  have ebi2 := ebi.out
                  clear ho hbh
                  go_wp2_with fail
                  refine (hbl.out _).mono ?_
                  rintro e wr ⟨rfl, rfl⟩
                  go_wp2_with fail
                  go_meet
                  exact ⟨rfl, Lib.hid (Chg.refl _ _)⟩
                | true =>
                  have ebn := hbehind.out
                  have ebi2 := ebi.out
                  obtain ⟨nb, hnb⟩ : ∃ nb, nameB c = nb := ⟨_, rfl⟩
                  have hnm := Lib.hid (name_ref c nb hnb)
                  obtain rfl : o = nb := by rw [← ho.out, ← hbh.out, hnb]; simp [h32]
                  clear ho hbh hnb
                  go_wp2_with fail
                  refine (hbl.out _).mono ?_
                  rintro e wr ⟨rfl, rfl⟩
                  go_wp2_with fail
                  refine (hnm.out _).mono ?_
                  rintro e w8 ⟨rfl, hd⟩
                  obtain ⟨nd, rfl⟩ := hd.out
                  go_wp2_with fail
                  go_meet
                  exact ⟨rfl, Lib.hid ((Chg.refl _ _).drewN _)⟩
              · have ej : ((j : Int) == 0) = false := by rw [beq_eq_false_iff_ne]; omega
                obtain rfl : o = false := by rw [← ho.out, ← hbh.out]; simp [h32, hj0]
                clear ho hbh
                go_wp2_with fail
                refine (hbl.out _).mono ?_
                rintro e wr ⟨rfl, rfl⟩
                go_wp2_with fail
                go_meet
                exact ⟨rfl, Lib.hid (Chg.refl _ _)⟩
      case rest =>
      obtain ⟨rfl, hC8⟩ := hcut
      have hC9 := Lib.hid (hC.out.trans hC8.out)
      clear hC hC7 hC8 d1
      have hZ2 := hZ.out
      have hrel : Hid (∀ (Y : List UInt8) (wx : World), Y = (if o then octB c else [c]) → Y.length ≤ 4 → Chg [] w1 wx → ∃ (j' : Nat) (X' : List UInt8) (Z' : ByteArray), Value.string (Z ++ bstr Y) = .string Z' ∧ Value.int .i64 ((j : Int) + 1) = .int .i64 j' ∧ j' ≤ u.length ∧ u.length - (j + 1) = u.length - j' ∧ Hid (Z' = bstr X') ∧ Z'.size ≤ 4 * j' ∧ Hid (R = X' ++ textB bare (behind && decide (j' = 0)) (u.drop j')) ∧ Hid (Chg [] w1 wx)) := Lib.hid (fun Y wx hY hl hCx => by
        refine ⟨j + 1, X ++ Y, _, rfl, rfl, by omega, rfl, Lib.hid (by rw [hZ2, bstr_app]), ?_, Lib.hid ?_, Lib.hid hCx⟩
        · rw [ByteArray.size_append]; show _ + Y.length ≤ _; omega
        · rw [hT2.out, hY]
          have : (behind && decide (j + 1 = 0)) = false := by simp
          rw [this, List.append_assoc])
      clear hT2 ho hbh hpb hZ hZ2
      have hZb : ¬ (9223372036854775807 < Z.size + (bstr (octB c)).size) := by show ¬ (_ < _ + 4); omega
      have hZb2 : ¬ (9223372036854775807 < Z.size + (bstr [c]).size) := by show ¬ (_ < _ + 1); omega
      cases o with
      | true =>
        have hoc := Lib.hid (fun w => roctal_any c w)
        have hfin := Lib.hid (fun wx h => hrel.out (octB c) wx rfl (by show 4 ≤ 4; omega) h)
        clear hrel
        go_wp2_with fail
        refine (hoc.out _).mono ?_
        rintro e w8 ⟨rfl, hC8⟩
        replace hfin := Lib.hid (hfin.out _ (hC9.out.trans hC8))
        clear hC8 hoc
        go_wp2_with fail
        go_roundg (u.length - (j + 1))
        case measure => omega
        case rel => exact hfin.out
      | false =>
        have hfin := Lib.hid (fun wx h => hrel.out [c] wx rfl (by show 1 ≤ 4; omega) h)
        have hby1 := byte_str wc c
        replace hfin := Lib.hid (hfin.out _ (hC9.out.alloc (.cells #[.int .u8 (c.toNat : Int)] 5)))
        clear hrel
        go_wp2_with fail
        go_roundg (u.length - (j + 1))
        case measure => omega
        case rel => exact hfin.out
    · obtain rfl : j = u.length := by omega
      have hT2 := hT.out
      rw [List.drop_length, textB, List.append_nil] at hT2
      have hfin := Lib.hid (show Z = bstr R from by rw [hZ.out, hT2])
      have hC9 := Lib.hid (hA.out.trans hC.out)
      clear hT hT2 hZ hC hA
      go_wp2_with fail
      go_ret
      exact ⟨by rw [← hfin.out]; rfl, hC9.out⟩
end Rt
end Go.Proofs.Yteodhnblbehenaa
namespace Go.Proofs.Yteodhnblbehenaa
open Go.RowKit Tcl PTclParses YteodhnblbehenaaW.PrintWords
namespace Rt
/-- A part as the reference takes it: a text in braces is looked at last. -/
def partR (kd : Int) (prev : Option Bool) (p : PK) : Option (List UInt8) :=
  if kd = 2 then (if p.1 then none else if p.2 = [] ∨ prev = some false then none else some p.2) else partK kd prev p
def partsR (kd : Int) (prev : Option Bool) : List PK → Option (List UInt8)
  | [] => some []
  | p :: r => match partR kd prev p with
    | none => none
    | some x => match partsR kd (some p.1) r with
      | none => none
      | some y => some (x ++ y)
theorem partsR_ne {kd : Int} (h : kd ≠ 2) : ∀ (ps : List PK) (prev : Option Bool), partsR kd prev ps = partsK kd prev ps := by
  intro ps
  induction ps with
  | nil => intro prev; rfl
  | cons p r ih =>
    intro prev
    rw [partsR, partsK]
    have : partR kd prev p = partK kd prev p := by unfold partR; rw [if_neg h]
    rw [this]
    cases partK kd prev p with
    | none => rfl
    | some x =>
      simp only; rw [ih]
      cases partsK kd (some p.1) r <;> rfl
def RunR (kd : Int) (ps : List PK) (i : Nat) (X : List UInt8) : Prop := partsR kd none ps = (partsR kd (prevK ps i) (ps.drop i)).map (X ++ ·)
theorem runR_init (kd : Int) (ps : List PK) : RunR kd ps 0 [] := by
  unfold RunR prevK
  cases h : partsR kd none ps <;> simp [h]
theorem runR_none {kd : Int} {ps : List PK} {i : Nat} {X : List UInt8} {p : PK} (h : RunR kd ps i X) (hp : ps[i]? = some p) (hn : partR kd (prevK ps i) p = none) : partsR kd none ps = none := by
  obtain ⟨hl, he⟩ := List.getElem?_eq_some_iff.1 hp
  rw [h, List.drop_eq_getElem_cons hl, he, partsR, hn]; rfl
theorem runR_some {kd : Int} {ps : List PK} {i : Nat} {X x : List UInt8} {p : PK} (h : RunR kd ps i X) (hp : ps[i]? = some p) (hn : partR kd (prevK ps i) p = some x) : RunR kd ps (i + 1) (X ++ x) := by
  obtain ⟨hl, he⟩ := List.getElem?_eq_some_iff.1 hp
  unfold RunR at h ⊢
  rw [h, List.drop_eq_getElem_cons hl, he, partsR, hn]
  have e : prevK ps (i + 1) = some p.1 := by unfold prevK; rw [if_neg (by omega), Nat.add_sub_cancel, hp]; rfl
  rw [e]
  cases partsR kd (some p.1) (ps.drop (i + 1)) <;> simp
theorem runR_end {kd : Int} {ps : List PK} {X : List UInt8} (h : RunR kd ps ps.length X) : partsR kd none ps = some X := by
  rw [h, List.drop_length, partsR]; simp
theorem partR_var (kd : Int) (prev : Option Bool) (u : List UInt8) : partR kd prev (true, u) = if (decide (kd = 2) || u.isEmpty || decide (64 < u.length) || !u.all nameB) = true then none else some (36 :: u) := by
  unfold partR
  by_cases h : kd = 2
  · simp [h]
  · rw [if_neg h, partK_var]
theorem partR_text (kd : Int) (prev : Option Bool) (u : List UInt8) : partR kd prev (false, u) = if (u.isEmpty || (prev == some false)) = true then none else some (if kd = 2 then u else textB (decide (kd = 0)) prev.isSome u) := by
  unfold partR
  by_cases h : kd = 2
  · rw [if_pos h, if_neg (by simp), if_pos h]
    by_cases k : u = [] ∨ prev = some false
    · rw [if_pos k, if_pos (by simpa [List.isEmpty_iff] using k)]
    · rw [if_neg k, if_neg (by simpa [List.isEmpty_iff] using k)]
  · rw [if_neg h, partK_text, decide_eq_false h]
    simp
theorem whole_nil : wholeB [] = true := by decide +kernel
theorem wordR_two {ps : List PK} (h : ps.length ≤ 1) : wordK (2, ps) = (partsR 2 none ps).bind (fun x => if wholeB x then some (123 :: (x ++ [125])) else none) := by
  have hg : ¬ ((2 : Int) < 0 ∨ (2 : Int) < 2 ∨ ((2 : Int) = 0 ∧ ps = []) ∨ ((2 : Int) = 2 ∧ 1 < ps.length)) := by omega
  rw [wordK_ok hg]
  match ps, h with
  | [], _ => simp [partsK, partsR, whole_nil, openK, closeK]
  | [(true, u)], _ => simp [partsK, partsR, partR, partK]
  | [(false, u)], _ =>
    simp only [partsK, partsR, partR, partK]
    by_cases hu : u = []
    · simp [hu]
    · cases hw : wholeB u <;> simp [hu, hw, openK, closeK]
  | _ :: _ :: _, h => simp at h
/-- What the reference's `word` tells. -/
def RwEnd (w : World) (W : WK) (L : Nat) (e : Ending) (w' : World) : Prop :=
  Chg [] w w' ∧ ((∃ x, wordK W = some x ∧ x.length ≤ L ∧ e = .returned (.tuple #[.string (bstr x), .bool true])) ∨ (wordK W = none ∧ ∃ y, e = .returned (.tuple #[.string y, .bool false])))
set_option maxRecDepth 100000 in
set_option maxHeartbeats 8000000 in
theorem rword_any (w : World) (at_ kd : Int) (A : Option Addr) (n c' : Nat) (ps : List S41) (hn : n = ps.length) (hk : k41.C w A n ps) (hlen : costK (ps.map pkey) + 3 ≤ 15000000) :
    Calls Try.prog 32 #[.agg #[.int .i64 at_, .int .i64 kd, .slice A n c']] w (RwEnd w (kd, ps.map pkey) (costK (ps.map pkey) + 2)) := by
  unfold RwEnd
  obtain ⟨PS, hPS⟩ : ∃ PS, ps.map pkey = PS := ⟨_, rfl⟩
  have hPg : ∀ i (h : i < n), PS[i]? = (ps[i]?).map pkey := fun i h => by rw [← hPS, List.getElem?_map]
  have hPl : PS.length = n := by rw [← hPS, List.length_map]; exact hn.symm
  have htxt : ∀ (W : World), Chg [] w W → ∀ (A' : Addr), A = some A' → ∀ (i : Nat) (v : Bool) (u : List UInt8), PS[i]? = some (v, u) → u.length ≤ 15000000 → Calls Try.prog 52 #[.agg #[.int .i64 at_, .int .i64 kd, .slice (some A') n c'], .int .i64 i] W fun e w' => e = .returned (.string (bstr (textB (decide (kd = 0)) (decide (0 < i)) u))) ∧ Chg [] W w' :=
    fun W hC A' hA i v u hp hu => rtext_any W at_ kd (some A') n c' ps hn (hA ▸ Kd.C_below hk hC.below) i v u (by rw [hPS]; exact hp) hu (by have := cost_len (ps.map pkey); rw [List.length_map] at this; omega)
  rw [hPS] at hlen ⊢
  obtain ⟨k, hk1⟩ : ∃ k, w.heap.size = k := ⟨_, rfl⟩
  have hA := (Chg.refl [] w).alloc (.cells #[.int .i64 at_, .int .i64 kd, .slice A n c'] 38)
  have hW := blk_new w (.cells #[.int .i64 at_, .int .i64 kd, .slice A n c'] 38)
  rw [hk1] at hW
  have hcnt : n ≤ 16000000 := by
    have := cost_len PS
    omega
  replace hPl := Lib.hid hPl
  replace hPg := Lib.hid hPg
  replace htxt := Lib.hid htxt
  clear hPS
  replace hk := Lib.hid hk
  replace hn := Lib.hid hn
  replace hlen := Lib.hid hlen
  replace hA := Lib.hid hA
  replace hW := Lib.hid hW
  obtain ⟨bad, hbad⟩ : ∃ bad, (decide (kd < 0) || decide (2 < kd) || (decide (kd = 0) && decide (n = 0)) || (decide (kd = 2) && decide (1 < n))) = bad := ⟨_, rfl⟩
  replace hbad := Lib.hid hbad
  go_enter Try.func32, Try.ntmps32
  go_upto_region 1 with fail
  generalize w.alloc (.cells #[.int .i64 at_, .int .i64 kd, .slice A n c'] 38) = w1 at hA hW ⊢
  obtain ⟨d0, d1, d2⟩ : w1.cell? ⟨k, 0, none⟩ = some (.int .i64 at_) ∧ w1.cell? ⟨k, 1, none⟩ = some (.int .i64 kd) ∧ w1.cell? ⟨k, 2, none⟩ = some (.slice A n c') := by have := hW.out; refine ⟨?_, ?_, ?_⟩ <;> simp [World.cell?, this]
  go_cut [38] (fun v38 wx => v38 = .bool bad ∧ wx = w1)
  case first =>
    clear hA hW hk hlen htxt
    by_cases h1 : kd < 0
    · have e1 : decide (kd < 0) = true := decide_eq_true h1
      obtain rfl : bad = true := by rw [← hbad.out, e1]; rfl
      clear hbad
      go_wp2_with fail
      go_meet
      exact ⟨rfl, rfl⟩
    · have e1 : decide (kd < 0) = false := decide_eq_false h1
      by_cases h2 : 2 < kd
      · have e2 : decide (kd > 2) = true := decide_eq_true h2
        obtain rfl : bad = true := by rw [← hbad.out, e1, decide_eq_true h2]; rfl
        clear hbad
        go_wp2_with fail
        go_meet
        exact ⟨rfl, rfl⟩
      · have e2 : decide (kd > 2) = false := decide_eq_false h2
        obtain rfl | rfl | rfl : kd = 0 ∨ kd = 1 ∨ kd = 2 := by omega
        · by_cases hn0 : n = 0
          · subst hn0
            obtain rfl : bad = true := by rw [← hbad.out]; rfl
            clear hbad
            go_wp2_with fail
            go_meet
            exact ⟨rfl, rfl⟩
          · have en : ((n : Int) == 0) = false := by rw [beq_eq_false_iff_ne]; omega
            obtain rfl : bad = false := by rw [← hbad.out]; simp [hn0]
            clear hbad
            go_wp2_with fail
            go_meet
            exact ⟨rfl, rfl⟩
        · obtain rfl : bad = false := by rw [← hbad.out]; simp
          clear hbad
          go_wp2_with fail
          go_meet
          exact ⟨rfl, rfl⟩
        · by_cases hn1 : 1 < n
          · have en : decide ((n : Int) > 1) = true := by simp; omega
            obtain rfl : bad = true := by rw [← hbad.out]; simp [hn1]
            clear hbad
            go_wp2_with fail
            go_meet
            exact ⟨rfl, rfl⟩
          · have en : decide ((n : Int) > 1) = false := by simp; omega
            obtain rfl : bad = false := by rw [← hbad.out]; simp [hn1]
            clear hbad
            go_wp2_with fail
            go_meet
            exact ⟨rfl, rfl⟩
  case rest =>
  obtain ⟨rfl, hwc⟩ := hcut
  rw [hwc]
  clear hwc wc
  cases bad with
  | true =>
    have hwn : wordK (kd, PS) = none := by
      unfold wordK
      rw [if_pos]
      have := hbad.out
      simp only [Bool.or_eq_true, Bool.and_eq_true, decide_eq_true_eq] at this
      have hn' := hn.out
      rcases this with ((h | h) | h) | h
      · exact .inl h
      · exact .inr (.inl h)
      · refine .inr (.inr (.inl ⟨h.1, ?_⟩))
        show PS = []
        exact List.eq_nil_of_length_eq_zero (by have := hPl.out; omega)
      · refine .inr (.inr (.inr ⟨h.1, ?_⟩))
        show 1 < PS.length
        have := hPl.out
        omega
    replace hwn := Lib.hid hwn
    clear hbad hW hlen hk htxt
    go_wp2_with fail
    go_ret2
    exact ⟨hA.out, .inr ⟨hwn.out, _, rfl⟩⟩
  | false =>
    have hk012 : kd = 0 ∨ kd = 1 ∨ kd = 2 := by
      have := hbad.out
      simp only [Bool.or_eq_false_iff, decide_eq_false_iff_not] at this
      omega
    have hwk : wordK (kd, PS) = (partsK kd none PS).map (fun x => openK kd ++ x ++ closeK kd) := wordK_ok (by
      have := hbad.out
      simp only [Bool.or_eq_false_iff, decide_eq_false_iff_not, Bool.and_eq_false_imp, decide_eq_true_eq] at this
      obtain ⟨⟨⟨q1, q2⟩, q3⟩, q4⟩ := this
      have hn' := hn.out
      rintro (h | h | h | h)
      · exact q1 h
      · exact q2 h
      · have h3 := q3 h.1
        have : PS.length = 0 := by rw [h.2]; rfl
        have := hPl.out
        omega
      · have h3 := q4 h.1
        have := h.2
        have := hPl.out
        omega)
    have hn1 : kd = 2 → n ≤ 1 := fun h => by
      have := hbad.out
      simp only [Bool.or_eq_false_iff, decide_eq_false_iff_not, Bool.and_eq_false_imp, decide_eq_true_eq] at this
      have := this.2 h
      omega
    have hwk2 : wordK (kd, PS) = (partsR kd none PS).bind (fun x => if kd = 2 ∧ wholeB x = false then none else some (openK kd ++ x ++ closeK kd)) := by
      by_cases h2 : kd = 2
      · subst h2
        rw [wordR_two (by have := hn1 rfl; have := hPl.out; omega)]
        congr 1
        funext x
        cases wholeB x <;> simp [openK, closeK]
      · rw [hwk, partsR_ne h2]
        simp only [h2, false_and, if_false]
        cases partsK kd none PS <;> rfl
    replace hwk2 := Lib.hid hwk2
    replace hn1 := Lib.hid hn1
    replace hk012 := Lib.hid hk012
    clear hbad hwk
    go_upto_block 0 with (fail)
    clear d0 d1 d2
    go_wp2
    go_loopg [4, 5] n (fun gk v4 v5 wr => ∃ (i : Nat) (X : List UInt8) (Z : ByteArray), v4 = .string Z ∧ v5 = .int .i64 i ∧ i ≤ n ∧ gk = n - i ∧ Hid (Z = bstr X) ∧ Z.size ≤ costK (PS.take i) ∧ Hid (RunR kd PS i X) ∧ Hid (Chg [] w1 wr))
    case atStart => exact ⟨0, [], _, rfl, rfl, by omega, by omega, Lib.hid rfl, by show 0 ≤ _; omega, Lib.hid (runR_init _ _), Lib.hid (Chg.refl _ _)⟩
    case round =>
      obtain ⟨i, X, Z, rfl, rfl, hi, rfl, hZ, hX, hRun, hC⟩ := hrel
      have hWr := Lib.hid (hC.out.heap hW.out (by simp))
      obtain ⟨d0, d1, d2⟩ : wr.cell? ⟨k, 0, none⟩ = some (.int .i64 at_) ∧ wr.cell? ⟨k, 1, none⟩ = some (.int .i64 kd) ∧ wr.cell? ⟨k, 2, none⟩ = some (.slice A n c') := by have := hWr.out; refine ⟨?_, ?_, ?_⟩ <;> simp [World.cell?, this]
      by_cases hlt : i < n
      · have hil : i < ps.length := by have := hn.out; omega
        have hpi : ps[i]? = some ps[i] := List.getElem?_eq_getElem hil
        obtain ⟨ad, rfl, q1, q2⟩ := at_T41 (Kd.C_below hk.out (hA.out.trans hC.out).below) (i : Int) (by omega) (by omega)
        have er : rd_T41 ps (i : Int) = ps[i] := by unfold rd_T41; simp [List.getD, hil]
        rw [er] at q1 q2
        clear er
        simp only [Int.toNat_natCast] at q1 q2
        have hPi : Hid (PS[i]? = some (pkey ps[i])) := Lib.hid (by rw [hPg.out i hlt, hpi]; rfl)
        generalize ps[i] = p at q1 q2 hpi hPi
        obtain ⟨vr, st⟩ := p
        simp only at q1 q2
        replace hpi := Lib.hid hpi
        have hA7 := ((Chg.refl [] wr).alloc (.cells #[.bool vr, .string st] 41))
        have hC7 := Lib.hid (hC.out.trans hA7)
        have hW7 := Lib.hid (hA7.heap hWr.out (by simp))
        have hP7 := Lib.hid (blk_new wr (.cells #[.bool vr, .string st] 41))
        obtain ⟨k7, hk7⟩ : ∃ k7, wr.heap.size = k7 := ⟨_, rfl⟩
        rw [hk7] at hP7
        clear hC hWr hA7
        go_upto_region 8 with fail
        generalize wr.alloc (.cells #[.bool vr, .string st] 41) = w7 at hC7 hW7 hP7 ⊢
        clear hk7 q1 q2 d0 d1 d2
        have hP0 : ∀ W : World, Chg [] w7 W → W.cell? ⟨k7, 0, none⟩ = some (.bool vr) ∧ W.cell? ⟨k7, 1, none⟩ = some (.string st) ∧ W.cell? ⟨k, 0, none⟩ = some (.int .i64 at_) ∧ W.cell? ⟨k, 1, none⟩ = some (.int .i64 kd) ∧ W.cell? ⟨k, 2, none⟩ = some (.slice (some ad) n c') := fun W hC => by
          have h1 := hC.heap hP7.out (by simp)
          have h2 := hC.heap hW7.out (by simp)
          refine ⟨?_, ?_, ?_, ?_, ?_⟩ <;> simp [World.cell?, h1, h2]
        obtain ⟨p0, p1, d0, d1, d2⟩ := hP0 w7 (Chg.refl _ _)
        replace hP0 := Lib.hid hP0
        obtain ⟨u, hu⟩ : ∃ u, st.data.toList = u := ⟨_, rfl⟩
        have hst : st = bstr u := by rw [← hu]; rfl
        have hul : u.length = st.size := by rw [hst]; rfl
        have hpk : pkey ⟨vr, st⟩ = (vr, u) := by rw [← hu]; rfl
        rw [hpk] at hPi
        have hcg := cost_get hPi.out
        have hct := cost_take PS (i + 1)
        simp only at hcg
        have hl9 := hlen.out
        have hus : u.length ≤ 4000000 := by omega
        have hte : st.toList = u := by rw [ByteArray.toList_eq]; exact hu
        have hZ9 : Z.size ≤ 15000000 := by omega
        have hrel : ∀ (x : List UInt8) (Z' : ByteArray) (wx : World), partR kd (prevK PS i) (vr, u) = some x → x.length ≤ 4 * u.length + 1 → Z' = bstr (X ++ x) → Chg [] w7 wx →
            ∃ (i' : Nat) (X' : List UInt8) (Z'' : ByteArray), Value.string Z' = .string Z'' ∧ Value.int .i64 ((i : Int) + 1) = .int .i64 i' ∧ i' ≤ n ∧ n - (i + 1) = n - i' ∧ Hid (Z'' = bstr X') ∧ Z''.size ≤ costK (PS.take i') ∧ Hid (RunR kd PS i' X') ∧ Hid (Chg [] w1 wx) := fun x Z' wx hpa hxl hZ' hCx => by
          refine ⟨i + 1, X ++ x, Z', rfl, rfl, by omega, rfl, Lib.hid hZ', ?_, Lib.hid (runR_some hRun.out hPi.out hpa), Lib.hid (hC7.out.trans hCx)⟩
          have h1 : Z'.size = X.length + x.length := by rw [hZ']; show (X ++ x).length = _; rw [List.length_append]
          have h2 : Z.size = X.length := by rw [hZ.out]; rfl
          omega
        have hbadr : ∀ wx, Chg [] w7 wx → partR kd (prevK PS i) (vr, u) = none → Chg [] w wx ∧ wordK (kd, PS) = none := fun wx hC hpa => ⟨(hA.out.trans hC7.out).trans hC, by rw [hwk2.out, runR_none hRun.out hPi.out hpa]; rfl⟩
        have hX0 : Hid (kd = 2 → X = []) := Lib.hid (fun h2 => by
          have h3 := hn1.out h2
          have hi0 : i = 0 := by omega
          have h4 : Z.size = X.length := by rw [hZ.out]; rfl
          rw [hi0] at hX
          have h5 : costK (PS.take 0) = 0 := rfl
          exact List.eq_nil_of_length_eq_zero (by omega))
        replace hrel := Lib.hid hrel
        replace hbadr := Lib.hid hbadr
        replace hst := Lib.hid hst
        replace hpk := Lib.hid hpk
        replace hu := Lib.hid hu
        have hul' : u.length ≤ st.size ∧ st.size ≤ u.length := by omega
        replace hul := Lib.hid hul
        replace hte := Lib.hid hte
        replace hcg := Lib.hid hcg
        clear hl9 hct
        cases vr with
        | true =>
          have hnm := rname_any u (by omega) w7
          rw [← hst.out] at hnm
          obtain ⟨right, hright⟩ : ∃ right, (!(u.isEmpty || decide (64 < u.length) || !u.all nameB)) = right := ⟨_, rfl⟩
          rw [hright] at hnm
          have hpv := partR_var kd (prevK PS i) u
          have hbb : (decide (kd = 2) || u.isEmpty || decide (64 < u.length) || !u.all nameB) = (decide (kd = 2) || !right) := by rw [← hright]; simp [Bool.or_assoc]
          rw [hbb] at hpv
          clear hbb
          replace hpv := Lib.hid hpv
          replace hnm := Lib.hid hnm
          replace hright := Lib.hid hright
          have e2 : (kd == 2) = decide (kd = 2) := by by_cases h : kd = 2 <;> simp [h]
          go_upto_region 9 with fail
          go_wp2_with fail
          refine (hnm.out).mono ?_
          rintro e w8 ⟨rfl, hC8⟩
          clear hnm p0 p1 d0 d1 d2
          obtain ⟨p0, p1, d0, d1, d2⟩ := hP0.out w8 hC8
          replace hC8 := Lib.hid hC8
          cases right with
          | false =>
            have hpn : partR kd (prevK PS i) (true, u) = none := by rw [hpv.out, if_pos (by simp)]
            have hfin := Lib.hid (hbadr.out w8 hC8.out hpn)
            clear hrel hbadr hpn hpv
            go_wp2_with fail
            (try rw [Exit.noGoto_ret])
            go_ret2
            exact ⟨hfin.out.1, .inr ⟨hfin.out.2, _, rfl⟩⟩
          | true =>
            by_cases h2 : kd = 2
            · have hpn : partR kd (prevK PS i) (true, u) = none := by rw [hpv.out, if_pos (by simp [h2])]
              have hfin := Lib.hid (hbadr.out w8 hC8.out hpn)
              rw [decide_eq_true h2] at e2
              clear hrel hbadr hpn hpv
              replace h2 := Lib.hid h2
              go_wp2_with fail
              (try rw [Exit.noGoto_ret])
              go_ret2
              exact ⟨hfin.out.1, .inr ⟨hfin.out.2, _, rfl⟩⟩
            · have hpa : partR kd (prevK PS i) (true, u) = some (36 :: u) := by rw [hpv.out, if_neg (by simp [h2])]
              rw [decide_eq_false h2] at e2
              have hcat : ¬ (9223372036854775807 < Z.size + (⟨#[36]⟩ : ByteArray).size) := by show ¬ (_ < _ + 1); omega
              have hcat1 : ¬ (9223372036854775807 < Z.size + 1) := by omega
              have hcat2 : ¬ (9223372036854775807 < (Z ++ (⟨#[36]⟩ : ByteArray)).size + st.size) := by rw [ByteArray.size_append]; show ¬ (_ < _ + 1 + _); omega
              have hcat3 : ¬ (9223372036854775807 < Z.size + 1 + st.size) := by omega
              have hZ3 : Z ++ (⟨#[36]⟩ : ByteArray) ++ st = bstr (X ++ 36 :: u) := by
                rw [hZ.out, hst.out]
                apply ByteArray.ext
                apply Array.ext'
                simp [bstr]
              have hfin := Lib.hid (fun wx h => hrel.out (36 :: u) _ wx hpa (by simp only [List.length_cons]; omega) hZ3 h)
              clear hrel hbadr hpa hpv hZ3 hZ
              replace hfin := Lib.hid (hfin.out _ hC8.out)
              replace h2 := Lib.hid h2
              go_wp2_with fail
              go_roundg (n - (i + 1))
              case measure => omega
              case rel => exact hfin.out
        | false =>
          have hprev : (i = 0 ∧ prevK PS i = none) ∨ (∃ pv : Bool, 0 < i ∧ prevK PS i = some pv ∧ ∃ (q : S41), ps[i - 1]? = some q ∧ q.f0 = pv) := by
            by_cases hi0 : i = 0
            · exact .inl ⟨hi0, by unfold prevK; rw [if_pos hi0]⟩
            · have hl1 : i - 1 < ps.length := by omega
              refine .inr ⟨ps[i - 1].f0, by omega, ?_, ps[i - 1], List.getElem?_eq_getElem hl1, rfl⟩
              unfold prevK
              rw [if_neg hi0, hPg.out (i - 1) (by omega), List.getElem?_eq_getElem hl1]; rfl
          obtain ⟨bad2, hbad2⟩ : ∃ bad2, (u.isEmpty || (prevK PS i == some false)) = bad2 := ⟨_, rfl⟩
          replace hbad2 := Lib.hid hbad2
          replace hprev := Lib.hid hprev
          have hkw := Lib.hid (Kd.C_below hk.out ((hA.out.trans hC7.out)).below)
          go_upto_region 13 with fail
          go_cut [84] (fun v84 wx => v84 = .bool bad2 ∧ Hid (Chg [] w7 wx))
          case first =>
            clear hrel hbadr hRun hwk2 hC7 htxt
            by_cases he : u = []
            · have e3 : st.toList.isEmpty = true := by rw [hte.out, he]; rfl
              have e4 : st.toList = [] := by rw [hte.out, he]
              have e5 : (st.toList == ([] : List UInt8)) = true := by rw [e4]; rfl
              obtain rfl : bad2 = true := by rw [← hbad2.out, he]; simp
              clear hbad2
              go_wp2_with fail
              go_meet
              exact ⟨rfl, Lib.hid (Chg.refl _ _)⟩
            · have e3 : st.toList.isEmpty = false := by rw [hte.out]; simpa using he
              have e4 : ¬ st.toList = [] := by rw [hte.out]; exact he
              have heu : u.isEmpty = false := by simpa using he
              rcases hprev.out with ⟨hi0, hpv⟩ | ⟨pv, hi0, hpv, q, hq, hqv⟩
              · have e5 : decide ((i : Int) > 0) = false := by simp; omega
                have e5n : decide (0 < i) = false := by simp; omega
                have hb : bad2 = false := by rw [← hbad2.out, heu, hpv]; rfl
                subst hb
                replace hpv := Lib.hid hpv
                replace hi0 := Lib.hid hi0
                clear hbad2
                go_wp2_with fail
                go_meet
                exact ⟨rfl, Lib.hid (Chg.refl _ _)⟩
              · have e5 : decide ((i : Int) > 0) = true := by simp; omega
                have e5n : decide (0 < i) = true := by simp; omega
                have hl1 : i - 1 < ps.length := (List.getElem?_eq_some_iff.1 hq).1
                obtain ⟨ad2, had, y0, -⟩ := at_T41 hkw.out ((i - 1 : Nat) : Int) (by omega) (by omega)
                obtain rfl : ad = ad2 := by simpa using had
                have er : rd_T41 ps ((i - 1 : Nat) : Int) = q := by
                  obtain ⟨h1, h2⟩ := List.getElem?_eq_some_iff.1 hq
                  unfold rd_T41; simp [List.getD, hq]
                rw [er, hqv] at y0
                simp only [Int.toNat_natCast] at y0
                clear er had
                have ei : (i : Int) - 1 = ((i - 1 : Nat) : Int) := by omega
                obtain ⟨i1, hi1⟩ : ∃ i1, i - 1 = i1 := ⟨_, rfl⟩
                rw [hi1] at y0 ei hl1
                have hb1 : i1 < n := by omega
                have hw1 : IntKind.i64.wrap ((i : Int) - 1) = (i1 : Int) := by rw [← ei]; exact IntWalk.i64_in _ (by omega)
                obtain rfl : bad2 = !pv := by rw [← hbad2.out, heu, hpv]; cases pv <;> rfl
                replace hpv := Lib.hid hpv
                replace hi1 := Lib.hid hi1
                replace hqv := Lib.hid hqv
                replace hq := Lib.hid hq
                clear hbad2
                cases pv with
                | false =>
                  go_wp2_with fail
                  go_meet
                  exact ⟨rfl, Lib.hid (Chg.refl _ _)⟩
                | true =>
                  go_wp2_with fail
                  go_meet
                  exact ⟨rfl, Lib.hid (Chg.refl _ _)⟩
          case rest =>
          obtain ⟨rfl, hC8⟩ := hcut
          clear p0 p1 d0 d1 d2 hkw
          obtain ⟨p0, p1, d0, d1, d2⟩ := hP0.out wc hC8.out
          cases bad2 with
          | true =>
            have hpn : partR kd (prevK PS i) (false, u) = none := by rw [partR_text, if_pos hbad2.out]
            have hfin := Lib.hid (hbadr.out wc hC8.out hpn)
            clear hrel hbadr hpn hprev
            go_wp2_with fail
            (try rw [Exit.noGoto_ret])
            go_ret2
            exact ⟨hfin.out.1, .inr ⟨hfin.out.2, _, rfl⟩⟩
          | false =>
            have hpa : partR kd (prevK PS i) (false, u) = some (if kd = 2 then u else textB (decide (kd = 0)) (prevK PS i).isSome u) := by
              rw [partR_text, if_neg (by rw [hbad2.out]; decide)]
            clear hbadr hbad2
            by_cases h2 : kd = 2
            · have hX9 := hX0.out h2
              subst h2
              rw [if_pos rfl] at hpa
              have hfin := Lib.hid (hrel.out u st wc hpa (by omega) (by rw [hX9, hst.out]; rfl) hC8.out)
              clear hrel hpa hprev hX9
              go_wp2_with fail
              go_roundg (n - (i + 1))
              case measure => omega
              case rel => exact hfin.out
            · rw [if_neg h2] at hpa
              have hps : (prevK PS i).isSome = decide (0 < i) := by
                rcases hprev.out with ⟨hi0, hpv⟩ | ⟨pv, hi0, hpv, -⟩
                · rw [hpv]; simp; omega
                · rw [hpv]; simp; omega
              rw [hps] at hpa
              have htx := Lib.hid (htxt.out wc ((hA.out.trans hC7.out).trans hC8.out) ad rfl i false u (by rw [hPi.out]) (by omega))
              obtain ⟨T, hT⟩ : ∃ T, textB (decide (kd = 0)) (decide (0 < i)) u = T := ⟨_, rfl⟩
              have hTl := textB_len (decide (kd = 0)) u (decide (0 < i))
              rw [hT] at htx hpa hTl
              have hcat : ¬ (9223372036854775807 < Z.size + (bstr T).size) := by show ¬ (_ < _ + T.length); omega
              have hfin := Lib.hid (fun wx h => hrel.out T (Z ++ bstr T) wx hpa (by omega) (by rw [hZ.out, bstr_app]) h)
              have e2 : (kd == 2) = false := by rw [beq_eq_false_iff_ne]; exact h2
              replace h2 := Lib.hid h2
              clear hrel hpa hprev hps hT hZ
              go_wp2_with fail
              refine (htx.out).mono ?_
              rintro e w9 ⟨rfl, hC9⟩
              replace hfin := Lib.hid (hfin.out _ (hC8.out.trans hC9))
              clear hC9 htx
              go_wp2_with fail
              go_roundg (n - (i + 1))
              case measure => omega
              case rel => exact hfin.out
      · obtain rfl : i = n := by omega
        have hE := hwk2.out
        rw [runR_end (by rw [hPl.out]; exact hRun.out)] at hE
        simp only [Option.bind_some] at hE
        have hXl : Z.size = X.length := by rw [hZ.out]; rfl
        have hct := cost_take PS i
        have hZl : Z.size ≤ 15000000 := by have := hlen.out; omega
        have hXb : X.length ≤ costK PS := by omega
        have hAC := Lib.hid (hA.out.trans hC.out)
        clear hct hwk2 hRun hC htxt
        rcases hk012.out with rfl | rfl | rfl
        · rw [if_neg (by simp)] at hE
          replace hE := Lib.hid hE
          go_wp2_with fail
          go_ret2
          exact ⟨hAC.out, .inl ⟨_, hE.out, by simp [openK, closeK]; omega, by rw [hZ.out]; simp [openK, closeK]⟩⟩
        · rw [if_neg (by simp)] at hE
          have h1 : ¬ (9223372036854775807 < (⟨#[34]⟩ : ByteArray).size + Z.size) := by show ¬ (_ < 1 + _); omega
          have h1b : ¬ (9223372036854775807 < 1 + Z.size) := by omega
          have h2 : ¬ (9223372036854775807 < ((⟨#[34]⟩ : ByteArray) ++ Z).size + (⟨#[34]⟩ : ByteArray).size) := by rw [ByteArray.size_append]; show ¬ (_ < 1 + _ + 1); omega
          have h2b : ¬ (9223372036854775807 < 1 + Z.size + 1) := by omega
          have hZ3 : (⟨#[34]⟩ : ByteArray) ++ Z ++ (⟨#[34]⟩ : ByteArray) = bstr (openK 1 ++ X ++ closeK 1) := by
            rw [hZ.out]
            apply ByteArray.ext
            apply Array.ext'
            simp [bstr, openK, closeK]
          replace hE := Lib.hid hE
          replace hZ3 := Lib.hid hZ3
          clear hZ
          go_wp2_with fail
          go_ret2
          exact ⟨hAC.out, .inl ⟨_, hE.out, by simp [openK, closeK]; omega, by rw [← hZ3.out]; rfl⟩⟩
        · have h1 : ¬ (9223372036854775807 < (⟨#[123]⟩ : ByteArray).size + Z.size) := by show ¬ (_ < 1 + _); omega
          have h1b : ¬ (9223372036854775807 < 1 + Z.size) := by omega
          have h2 : ¬ (9223372036854775807 < ((⟨#[123]⟩ : ByteArray) ++ Z).size + (⟨#[125]⟩ : ByteArray).size) := by rw [ByteArray.size_append]; show ¬ (_ < 1 + _ + 1); omega
          have h2b : ¬ (9223372036854775807 < 1 + Z.size + 1) := by omega
          have hZ3 : (⟨#[123]⟩ : ByteArray) ++ Z ++ (⟨#[125]⟩ : ByteArray) = bstr (123 :: (X ++ [125])) := by
            rw [hZ.out]
            apply ByteArray.ext
            apply Array.ext'
            simp [bstr]
          generalize hBB : (⟨#[123]⟩ : ByteArray) ++ Z ++ (⟨#[125]⟩ : ByteArray) = BB at hZ3
          have hbr := fun (W : World) h => braced_ref W wr.heap.size (123 :: (X ++ [125])) 0 0 (.slice none 0 0) (by simp; omega) rfl h
          unfold RbEnd at hbr
          rw [← hZ3] at hbr
          have hBs : BB.size = X.length + 2 := by rw [hZ3]; show (123 :: (X ++ [125])).length = _; simp
          have hP : RP (wr.alloc (.cells #[.string BB, .int .i64 0, .int .i64 0, .int .i64 0, .slice none 0 0] 61)) wr.heap.size BB (0 : Nat) 0 0 (.slice none 0 0) := blk_new _ _
          have hC0 := hAC.out.alloc (.cells #[.string BB, .int .i64 0, .int .i64 0, .int .i64 0, .slice none 0 0] 61)
          have hgw : w.heap.size ≤ wr.heap.size := hAC.out.size
          have hw : wholeB X = (match braced (123 :: (X ++ [125])) 0 0 0 with | .ok j => j == X.length + 2 | .error _ => false) := rfl
          simp only [true_and] at hE
          have hEx : (if wholeB X = false then none else some (openK 2 ++ X ++ closeK 2)) = (if wholeB X = false then none else some (123 :: (X ++ [125]))) := by simp [openK, closeK]
          replace hE := Lib.hid (hE.trans hEx)
          replace hZ3 := Lib.hid hZ3
          replace hbr := Lib.hid hbr
          replace hP := Lib.hid hP
          replace hC0 := Lib.hid hC0
          replace hw := Lib.hid hw
          clear hZ hEx hAC
          obtain ⟨g, hg⟩ : ∃ g, wr.heap.size = g := ⟨_, rfl⟩
          rw [hg] at hbr hP hgw
          go_upto_region 23 with fail
          generalize wr.alloc (.cells #[.string BB, .int .i64 0, .int .i64 0, .int .i64 0, .slice none 0 0] 61) = w2 at hP hC0 ⊢
          clear hBB h1 h1b h2 h2b hg
          go_wp2_with fail
          refine (hbr.out _ hP.out).mono ?_
          rintro e w3 ⟨v, rfl, hC2, hcase⟩
          have hC3 := Lib.hid (hC0.out.then hC2 (fun q hq => .inr (by simp at hq; omega)))
          clear hbr hC2 hC0 hP
          rcases hcase with ⟨j, hj, hP, -, -⟩ | ⟨p, c, jj, hj, hP, -, hc0⟩
          · have hw2 := hw.out
            rw [hj] at hw2
            simp only at hw2
            obtain ⟨c0, c1, c2, -, -⟩ := hP.c0
            replace hP := Lib.hid hP
            replace hj := Lib.hid hj
            clear hw
            by_cases hjl : j = X.length + 2
            · have e1 : ((j : Int) == (BB.size : Int)) = true := by rw [hBs]; simp [hjl]
              rw [show (j == X.length + 2) = true by simpa using hjl] at hw2
              have hE2 := hE.out
              rw [if_neg (by rw [hw2]; decide)] at hE2
              replace hE2 := Lib.hid hE2
              replace hw2 := Lib.hid hw2
              replace hjl := Lib.hid hjl
              replace hBs := Lib.hid hBs
              clear hE
              go_wp2_with fail
              go_quiet (fail)
              go_wp2_with fail
              go_ret2
              exact ⟨hC3.out.drewN _, .inl ⟨_, hE2.out, by simp; omega, by rw [← hZ3.out]; rfl⟩⟩
            · have e1 : ((j : Int) == (BB.size : Int)) = false := by rw [hBs, beq_eq_false_iff_ne]; omega
              rw [show (j == X.length + 2) = false by simpa using hjl] at hw2
              have hE2 := hE.out
              rw [if_pos hw2] at hE2
              replace hE2 := Lib.hid hE2
              replace hw2 := Lib.hid hw2
              replace hjl := Lib.hid hjl
              replace hBs := Lib.hid hBs
              clear hE
              go_wp2_with fail
              go_quiet (fail)
              go_wp2_with fail
              go_ret2
              exact ⟨hC3.out.drewN _, .inr ⟨hE2.out, _, rfl⟩⟩
          · have hw2 := hw.out
            rw [hj] at hw2
            simp only at hw2
            obtain ⟨c0, c1, c2, -, -⟩ := hP.c0
            have e1 : ((c : Int) == 0) = false := by rw [beq_eq_false_iff_ne]; omega
            have hE2 := hE.out
            rw [if_pos hw2] at hE2
            replace hE2 := Lib.hid hE2
            replace hw2 := Lib.hid hw2
            replace hP := Lib.hid hP
            replace hj := Lib.hid hj
            clear hw hE
            go_wp2_with fail
            go_quiet (fail)
            go_wp2_with fail
            go_ret2
            exact ⟨hC3.out.drewN _, .inr ⟨hE2.out, _, rfl⟩⟩
end Rt
end Go.Proofs.Yteodhnblbehenaa
namespace Go.Proofs.Yteodhnblbehenaa
open Go.RowKit Tcl PTclParses YteodhnblbehenaaW.PrintWords
namespace Rt
set_option maxRecDepth 100000 in
set_option maxHeartbeats 8000000 in
theorem rprint_any (w : World) (A : Option Addr) (n c : Nat) (l : List S33) (hn : n = l.length) (hk : k33.C w A n l) (hlen : costL (l.map ckey) ≤ 14000000) :
    Calls Try.prog 18 #[.slice A n c] w (PrEnd w (l.map ckey)) := by
  unfold PrEnd
  obtain ⟨KS, hKS⟩ : ∃ KS, l.map ckey = KS := ⟨_, rfl⟩
  have hKg : ∀ i (h : i < n), KS[i]? = (l[i]?).map ckey := fun i h => by rw [← hKS, List.getElem?_map]
  have hKl : KS.length = n := by rw [← hKS, List.length_map]; exact hn.symm
  rw [hKS] at hlen ⊢
  have hn9 : n ≤ 14000000 := by
    have := sum_len costC (fun a => by unfold costC; omega) KS
    unfold costL at hlen
    omega
  replace hKg := Lib.hid hKg
  replace hKl := Lib.hid hKl
  replace hk := Lib.hid hk
  replace hlen := Lib.hid hlen
  replace hn := Lib.hid hn
  clear hKS
  go_enter Try.func18, Try.ntmps18
  go_upto_block 0 with (fail)
  go_wp2
  go_loopg [4, 5] n (fun gk v4 v5 wr => ∃ (i : Nat) (X : List UInt8) (Z : ByteArray), v4 = .string Z ∧ v5 = .int .i64 i ∧ i ≤ n ∧ gk = n - i ∧ Hid (Z = bstr X) ∧ Z.size ≤ costL (KS.take i) ∧ Hid (RunL KS i X) ∧ Hid (Chg [] w wr))
  case atStart => exact ⟨0, [], _, rfl, rfl, by omega, by omega, Lib.hid rfl, by show 0 ≤ _; omega, Lib.hid (runL_init _), Lib.hid (Chg.refl _ _)⟩
  case round =>
    obtain ⟨i, X, Z, rfl, rfl, hi, rfl, hZ, hX, hRun, hC⟩ := hrel
    by_cases hlt : i < n
    · have hil : i < l.length := by have := hn.out; omega
      obtain ⟨ad, A1, c1, rfl, q1, q2, hc1, hk1⟩ := at_T33 hk.out (i : Int) (by omega) (by omega)
      have er : rd_T33 l (i : Int) = l[i] := by unfold rd_T33; simp [List.getD, hil]
      rw [er] at q1 q2 hc1 hk1
      clear er
      simp only [Int.toNat_natCast] at q1 q2
      have hCi : Hid (KS[i]? = some (ckey l[i])) := Lib.hid (by rw [hKg.out i hlt, List.getElem?_eq_getElem hil]; rfl)
      generalize l[i] = cm at q1 q2 hc1 hk1 hCi
      obtain ⟨at_, ws⟩ := cm
      simp only at q1 q2 hc1 hk1
      obtain ⟨C, hCk⟩ : ∃ C, ckey ⟨at_, ws⟩ = C := ⟨_, rfl⟩
      rw [hCk] at hCi
      obtain ⟨m, hm⟩ : ∃ m, ws.length = m := ⟨_, rfl⟩
      have hCg : ∀ j (h : j < m), C[j]? = (ws[j]?).map wkey := fun j h => by rw [← hCk]; show (ws.map wkey)[j]? = _; rw [List.getElem?_map]
      have hCl : C.length = m := by rw [← hCk, ← hm]; show (ws.map wkey).length = _; rw [List.length_map]
      rw [hm] at q2 hc1 hk1
      have hcost := sum_get costC hCi.out
      have hcost2 := sum_take costC KS (i + 1)
      have hl9 := hlen.out
      unfold costL at hl9 hX
      have hcC : costC C = (C.map costW).sum + 1 := rfl
      have hm9 : m ≤ 14000000 := by
        have := sum_len costW (fun a => by unfold costW; omega) C
        omega
      have hXC : Z.size + (C.map costW).sum + 1 ≤ 14000000 := by omega
      have hX2 : Hid (Z.size + (C.map costW).sum + 1 ≤ costL (KS.take (i + 1))) := Lib.hid (by unfold costL; omega)
      clear hcost hcost2 hl9 hcC hX q1
      have hQ : ∀ W, Chg [] w W → W.cell? ⟨(ad.add (i * 2)).block, (ad.add (i * 2)).off + 1, none⟩ = some (.slice A1 m c1) := fun W h => by
        have := h.cell q2 (by simp)
        simpa using this
      replace hQ := Lib.hid hQ
      replace hm := Lib.hid hm
      replace hCk := Lib.hid hCk
      replace hCg := Lib.hid hCg
      replace hCl := Lib.hid hCl
      replace hk1 := Lib.hid hk1
      replace q2 := hC.out.cell q2 (by simp)
      by_cases hm0 : m = 0
      · subst hm0
        have hcn : cmdK C = none := by
          have : C = [] := List.eq_nil_of_length_eq_zero hCl.out
          rw [this]; rfl
        have hpn := Lib.hid (runL_none hRun.out hCi.out hcn)
        clear hcn hQ
        go_wp2_with fail
        (try rw [Exit.noGoto_ret])
        go_ret2
        exact ⟨hC.out, .inr ⟨hpn.out, rfl⟩⟩
      · have em : ((m : Int) == 0) = false := by rw [beq_eq_false_iff_ne]; omega
        go_upto_block 2 with (fail)
        clear q2
        go_cut [4] (fun v4 wx => ∃ (Y : List UInt8) (Z2 : ByteArray), v4 = .string Z2 ∧ Hid (Z2 = bstr (X ++ Y)) ∧ Hid (cmdK C = some Y) ∧ Z2.size ≤ Z.size + (C.map costW).sum ∧ Hid (Chg [] w wx))
        case first =>
          go_wp2
          go_loopg [4, 6] m (fun gk v4 v6 wx => ∃ (j : Nat) (Y : List UInt8) (Z2 : ByteArray), v4 = .string Z2 ∧ v6 = .int .i64 j ∧ j ≤ m ∧ gk = m - j ∧ Hid (Z2 = bstr (X ++ Y)) ∧ Z2.size ≤ Z.size + ((C.take j).map costW).sum ∧ Hid (RunW C j Y) ∧ Hid (Chg [] w wx))
          case atStart => exact ⟨0, [], Z, rfl, rfl, by omega, by omega, Lib.hid (by rw [List.append_nil]; exact hZ.out), by omega, Lib.hid (runW_init _), hC⟩
          case round =>
            clear hC
            obtain ⟨j, Y, Z2, rfl, rfl, hj, rfl, hZ2, hY, hRw, hCx⟩ := hrel
            have q2 := hQ.out wr hCx.out
            by_cases hlt2 : j < m
            · have hjl : j < ws.length := by have := hm.out; omega
              obtain ⟨ad2, A2, c2, rfl, z0, z1, z2, hc2, hk2⟩ := at_T38 hk1.out (j : Int) (by omega) (by omega)
              replace z0 := hCx.out.cell z0 (by simp)
              replace z1 := hCx.out.cell z1 (by simp)
              replace z2 := hCx.out.cell z2 (by simp)
              have er : rd_T38 ws (j : Int) = ws[j] := by unfold rd_T38; simp [List.getD, hjl]
              rw [er] at z0 z1 z2 hc2 hk2
              clear er
              simp only [Int.toNat_natCast] at z0 z1 z2
              have hWi : Hid (C[j]? = some (wkey ws[j])) := Lib.hid (by rw [hCg.out j hlt2, List.getElem?_eq_getElem hjl]; rfl)
              generalize ws[j] = wd at z0 z1 z2 hc2 hk2 hWi
              obtain ⟨wat, kd, ps⟩ := wd
              simp only at z0 z1 z2 hc2 hk2
              obtain ⟨K, hK⟩ : ∃ K, ps.map pkey = K := ⟨_, rfl⟩
              have hWi2 : wkey ⟨wat, kd, ps⟩ = (kd, K) := by rw [← hK]; rfl
              rw [hWi2] at hWi
              have hc9 := sum_get costW hWi.out
              have hc8 := sum_take costW C (j + 1)
              have hcw : costW (kd, K) = costK K + 4 := rfl
              obtain ⟨q, hq⟩ : ∃ q, ps.length = q := ⟨_, rfl⟩
              rw [hq] at z2 hc2 hk2
              have hcall := rword_any wr wat kd A2 q c2 ps hq.symm (Kd.C_below hk2 hCx.out.below) (by rw [hK]; omega)
              rw [hK] at hcall
              unfold RwEnd at hcall
              replace hcall := Lib.hid hcall
              replace hQ := hQ
              clear hWi2 hK hc2 hk2 hq
              go_upto_region 10 with fail
              go_wp2_with fail
              refine (hcall.out).mono ?_
              rintro e w10 ⟨hC10, hcase⟩
              have hC11 := Lib.hid (hCx.out.trans hC10)
              clear hcall hC10 z0 z1 z2 q2 hCx
              rcases hcase with ⟨x, hwv, hxl, rfl⟩ | ⟨hwv, y, rfl⟩
              rotate_left
              · have hpn := Lib.hid (runL_none hRun.out hCi.out (runW_none hRw.out hWi.out hwv))
                clear hwv
                go_wp2_with fail
                (try rw [Exit.noGoto_ret])
                go_ret2
                exact ⟨hC11.out, .inr ⟨hpn.out, rfl⟩⟩
              have hr2 := runW_some hRw.out hWi.out hwv
              have hbx : (bstr x).size = x.length := rfl
              by_cases hj0 : j = 0
              · subst hj0
                rw [if_pos rfl] at hr2
                have k1 : ¬ (9223372036854775807 < Z2.size + (bstr x).size) := by omega
                have hZ3 : Hid (Z2 ++ bstr x = bstr (X ++ (Y ++ ([] ++ x)))) := Lib.hid (by rw [hZ2.out, Rt.bstr_app]; simp)
                have hsz : (Z2 ++ bstr x).size ≤ Z.size + ((C.take (0 + 1)).map costW).sum := by rw [ByteArray.size_append]; omega
                replace hr2 := Lib.hid hr2
                replace hsz := Lib.hid hsz
                replace hwv := Lib.hid hwv
                clear hZ2 hbx
                go_wp2_with fail
                go_roundg (m - (0 + 1))
                case measure => omega
                case rel => exact ⟨0 + 1, _, _, rfl, by go_num, by omega, rfl, hZ3, hsz.out, hr2, hC11⟩
              · rw [if_neg hj0] at hr2
                have e0 : decide ((j : Int) > 0) = true := by simp; omega
                have e0n : decide (0 < j) = true := by simp; omega
                have k0 : ¬ (9223372036854775807 < Z2.size + (⟨#[32]⟩ : ByteArray).size) := by show ¬ (_ < _ + 1); omega
                have k0b : ¬ (9223372036854775807 < Z2.size + 1) := by omega
                have k1 : ¬ (9223372036854775807 < (Z2 ++ (⟨#[32]⟩ : ByteArray)).size + (bstr x).size) := by rw [ByteArray.size_append]; show ¬ (_ < _ + 1 + _); omega
                have k1b : ¬ (9223372036854775807 < Z2.size + 1 + (bstr x).size) := by omega
                have hZ3 : Hid (Z2 ++ (⟨#[32]⟩ : ByteArray) ++ bstr x = bstr (X ++ (Y ++ ([32] ++ x)))) := Lib.hid (by
                  rw [hZ2.out]
                  apply ByteArray.ext
                  apply Array.ext'
                  simp [bstr])
                have hsz : (Z2 ++ (⟨#[32]⟩ : ByteArray) ++ bstr x).size ≤ Z.size + ((C.take (j + 1)).map costW).sum := by
                  rw [ByteArray.size_append, ByteArray.size_append]; show _ + 1 + _ ≤ _; omega
                replace hr2 := Lib.hid hr2
                replace hsz := Lib.hid hsz
                replace hwv := Lib.hid hwv
                clear hZ2 hbx
                go_wp2_with fail
                go_roundg (m - (j + 1))
                case measure => omega
                case rel => exact ⟨j + 1, _, _, rfl, by go_num, by omega, rfl, hZ3, hsz.out, hr2, hC11⟩
            · obtain rfl : j = m := by omega
              have hcne : C ≠ [] := fun h => hm0 (by rw [← hCl.out, h]; rfl)
              have hY2 := Lib.hid (runW_end (by rw [hCl.out]; exact hRw.out) hcne)
              have hYl2 : Z2.size ≤ Z.size + (C.map costW).sum := Nat.le_trans hY (Nat.add_le_add_left (sum_take costW C j) _)
              clear hcne
              go_wp2_with fail
              go_meet
              exact ⟨Y, Z2, rfl, hZ2, hY2, hYl2, hCx⟩
        case rest =>
        obtain ⟨Y, Z2, rfl, hZ2, hY, hYl, hC7⟩ := hcut
        have k0 : ¬ (9223372036854775807 < Z2.size + (⟨#[10]⟩ : ByteArray).size) := by show ¬ (_ < _ + 1); omega
        have k0b : ¬ (9223372036854775807 < Z2.size + 1) := by omega
        have hZ3 : Hid (Z2 ++ (⟨#[10]⟩ : ByteArray) = bstr (X ++ (Y ++ [10]))) := Lib.hid (by
          rw [hZ2.out]
          apply ByteArray.ext
          apply Array.ext'
          simp [bstr])
        have hsz : Hid ((Z2 ++ (⟨#[10]⟩ : ByteArray)).size ≤ costL (KS.take (i + 1))) := Lib.hid (by
          rw [ByteArray.size_append]; show _ + 1 ≤ _
          have := hX2.out; omega)
        have hr2 := Lib.hid (runL_some hRun.out hCi.out hY.out)
        clear hZ hZ2 hY hRun
        go_wp2_with fail
        go_roundg (n - (i + 1))
        case measure => omega
        case rel => exact ⟨i + 1, _, _, rfl, by go_num, by omega, rfl, hZ3, hsz.out, hr2, hC7⟩
    · obtain rfl : i = n := by omega
      have hp := Lib.hid (runL_end (by rw [hKl.out]; exact hRun.out))
      have hZl : Z.size ≤ 14000000 := by
        have h1 := sum_take costC KS i
        have h2 := hlen.out
        unfold costL at hX h2
        omega
      have hXl : Z.size = X.length := by rw [hZ.out]; rfl
      have hd : decide ((Z.size : Int) > 16777216) = false := by simp; omega
      replace hXl := Lib.hid hXl
      go_wp2_with fail
      go_ret2
      exact ⟨hC.out, .inl ⟨X, hp.out, by have := hXl.out; omega, by rw [← hZ.out]; rfl⟩⟩
end Rt
end Go.Proofs.Yteodhnblbehenaa
namespace Go.Proofs.Yteodhnblbehenaa
open Go.RowKit Tcl PTclParses YteodhnblbehenaaW.PrintWords
set_option maxRecDepth 100000 in
set_option maxHeartbeats 16000000 in
theorem tclPrints_walk (w : World) (A B : Option Addr) (c d : Nat) (l m : List S33) (hlc : l.length ≤ c) (hmd : m.length ≤ d) (hk : k33.C w A l.length l) (hj : k33.C w B m.length m) (hcost : costL (l.map ckey) ≤ 14000000) :
    Calls Try.prog 9 #[.slice A l.length c, .slice B m.length d] w fun e w' => e = .returned (.bool true) ∧ Below w.heap.size w w' := by
  have hfine := kd_fine hk
  have hfinj := kd_fine hj
  obtain ⟨n, hn⟩ : ∃ n, l.length = n := ⟨_, rfl⟩
  obtain ⟨k, hm⟩ : ∃ k, m.length = k := ⟨_, rfl⟩
  rw [hn] at hk hlc ⊢
  rw [hm] at hj hmd ⊢
  have hgr := Lib.hid (fun W (hC : Chg [] w W) => great_any W A n c l hn.symm (by rw [← hn]; exact hfine.1) (Kd.C_below hk hC.below) hfine.2)
  have hgj := Lib.hid (fun W (hC : Chg [] w W) => great_any W B k d m hm.symm (by rw [← hm]; exact hfinj.1) (Kd.C_below hj hC.below) hfinj.2)
  have hprt := Lib.hid (fun W (hC : Chg [] w W) => print_any W A n c l hn.symm (Kd.C_below hk hC.below) (by omega))
  have hrpr := Lib.hid (fun W (hC : Chg [] w W) => Rt.rprint_any W A n c l hn.symm (Kd.C_below hk hC.below) hcost)
  unfold PrEnd at hprt hrpr
  have hts := Lib.hid (fun W (hC : Chg [] w W) => tsame_any W A B n k c d l m hn.symm hm.symm (Kd.C_below hk hC.below) (Kd.C_below hj hC.below))
  have htl := Lib.hid (fun W (hC : Chg [] w W) => tsame_any W A A n n c c l l hn.symm hn.symm (Kd.C_below hk hC.below) (Kd.C_below hk hC.below))
  have hrs := Lib.hid (fun W (hC : Chg [] w W) => same_any W A B c d l m n k hn hm (Kd.C_below hk hC.below) (Kd.C_below hj hC.below) hlc hmd)
  have hself : decide (l.map ckey = l.map ckey) = true := by simp
  rw [hself] at htl
  obtain ⟨q, hq⟩ : ∃ q, decide (l.map ckey = m.map ckey) = q := ⟨_, rfl⟩
  rw [hq] at hts hrs
  obtain ⟨KS, hKS⟩ : ∃ KS, l.map ckey = KS := ⟨_, rfl⟩
  rw [hKS] at hprt hrpr
  clear hfine hfinj hk hj hcost hself hq hKS hn hm hlc hmd
  go_enter Try.func9, Try.ntmps9
  go_wp2_with fail
  refine (alive_any _).mono ?_
  rintro e w1 ⟨rfl, hC⟩
  replace hC := Lib.hid hC
  go_wp2_with fail
  refine (hgr.out w1 hC.out).mono ?_
  rintro e w2 ⟨⟨b, rfl⟩, hC1⟩
  replace hC := Lib.hid (hC.out.trans hC1)
  clear hC1 hgr
  cases b with
  | true =>
    clear hgj
    go_wp2_with fail
    refine (alive_any _).mono ?_
    rintro e w3 ⟨rfl, hC1⟩
    replace hC := Lib.hid (hC.out.trans hC1)
    clear hC1
    go_wp2_with fail
    go_ret
    exact ⟨rfl, hC.out.below⟩
  | false =>
  go_wp2_with fail
  refine (hgj.out w2 hC.out).mono ?_
  rintro e w3 ⟨⟨b, rfl⟩, hC1⟩
  replace hC := Lib.hid (hC.out.trans hC1)
  clear hC1 hgj
  cases b with
  | true =>
    go_wp2_with fail
    refine (alive_any _).mono ?_
    rintro e w3 ⟨rfl, hC1⟩
    replace hC := Lib.hid (hC.out.trans hC1)
    clear hC1
    go_wp2_with fail
    go_ret
    exact ⟨rfl, hC.out.below⟩
  | false =>
  go_wp2_with fail
  refine (hprt.out w3 hC.out).mono ?_
  rintro e w4 ⟨hC1, hcase⟩
  replace hC := Lib.hid (hC.out.trans hC1)
  clear hC1 hprt
  have hboth : Hid (∃ (ZS : ByteArray) (z : Nat), e = .returned (.tuple #[.string ZS, .int .i64 z]) ∧ ∀ e' : Ending, ((∃ t, printK KS = some t ∧ t.length ≤ 15000000 ∧ e' = .returned (.tuple #[.string (bstr t), .int .i64 0])) ∨ (printK KS = none ∧ e' = .returned (.tuple #[.string (bstr []), .int .i64 2]))) → e' = .returned (.tuple #[.string ZS, .int .i64 z])) := by
    refine Lib.hid ?_
    rcases hcase with ⟨t, ht, htl, rfl⟩ | ⟨hnone, rfl⟩
    · refine ⟨bstr t, 0, rfl, ?_⟩
      rintro e' (⟨t', ht', -, rfl⟩ | ⟨h0, -⟩)
      · rw [ht] at ht'; cases ht'; rfl
      · rw [ht] at h0; cases h0
    · refine ⟨bstr [], 2, rfl, ?_⟩
      rintro e' (⟨t', ht', -, rfl⟩ | ⟨-, rfl⟩)
      · rw [hnone] at ht'; cases ht'
      · rfl
  clear hcase
  obtain ⟨ZS, z, rfl, hb⟩ := hboth.out
  replace hb := Lib.hid hb
  clear hboth
  go_wp2_with fail
  refine (hrpr.out w4 hC.out).mono ?_
  rintro e w5 ⟨hC1, hcase⟩
  have he := hb.out e hcase
  subst he
  replace hC := Lib.hid (hC.out.trans hC1)
  clear hC1 hcase hrpr hb
  go_wp2_with fail
  refine (hts.out w5 hC.out).mono ?_
  rintro e w6 ⟨rfl, hC1⟩
  replace hC := Lib.hid (hC.out.trans hC1)
  clear hC1 hts
  go_wp2_with fail
  refine (hrs.out w6 hC.out).mono ?_
  rintro e w7 ⟨rfl, hC1⟩
  replace hC := Lib.hid (hC.out.trans hC1)
  clear hC1 hrs
  cases q
  all_goals
    go_wp2_with fail
    refine (htl.out w7 hC.out).mono ?_
    rintro e w8 ⟨rfl, hC1⟩
    replace hC := Lib.hid (hC.out.trans hC1)
    clear hC1 htl
    go_wp2_with fail
    go_ret
    exact ⟨rfl, hC.out.below⟩
theorem tclPrints_row (v0 : Value) (d0 : Dt) (v1 : Value) (d1 : Dt) (w : World) (h0 : Reads w (.sl [.int .i64, .sl [.int .i64, .int .i64, .sl [.bool, .str]]]) v0 d0) (hb0 : bulkD d0 ≤ 1048576) (h1 : Reads w (.sl [.int .i64, .sl [.int .i64, .int .i64, .sl [.bool, .str]]]) v1 d1) (hb1 : bulkD d1 ≤ 1048576) :
    Calls Try.prog 9 #[v0, v1] w fun e w' => e = .returned (.bool true) ∧ Below w.heap.size w w' := by
  obtain ⟨A, c, ys, rfl, hlc, -, hk, hcost⟩ := cmds_of_reads h0
  obtain ⟨B, d, zs, rfl, hmd, -, hj, -⟩ := cmds_of_reads h1
  exact tclPrints_walk w A B c d ys zs hlc hmd hk hj (by omega)
end Go.Proofs.Yteodhnblbehenaa
