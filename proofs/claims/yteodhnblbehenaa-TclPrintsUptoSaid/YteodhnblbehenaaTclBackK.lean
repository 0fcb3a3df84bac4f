/- Printed commands are parsed as they were, in plain Lean. No program in sight. Conditions: as they state. -/
import Derived.Test.YteodhnblbehenaaTclPrK
set_option linter.unusedVariables false
set_option linter.unusedSimpArgs false
namespace Go.Proofs.Yteodhnblbehenaa
namespace Tcl
def pkeyP (p : Part) : PK := (p.var, p.s)
def wkeyP (w : Word) : WK := ((w.kind : Int), w.parts.map pkeyP)
def ckeyP (c : Cmd) : CK := c.words.map wkeyP
theorem key_toPart (ps : List PK) : (ps.map toPart).map pkeyP = ps := by
  rw [List.map_map]
  have : pkeyP ∘ toPart = id := by funext p; rfl
  rw [this, List.map_id]
/-- Braces are told by the bytes alone. -/
theorem braced_loc {s s' : List UInt8} {f f' : Nat} : ∀ (n : Nat) (y r r' : List UInt8) (i i' d j : Nat), y.length ≤ n → s.drop i = y ++ r → s'.drop i' = y ++ r' → braced s f i d = .ok j → j ≤ i + y.length → braced s' f' i' d = .ok (i' + (j - i)) := by
  intro n
  induction n with
  | zero =>
    intro y r r' i i' d j hn h1 h2 h hj
    have := (braced_bound s f _ i d j (Nat.le_refl _) h).1
    omega
  | succ n ih =>
    intro y r r' i i' d j hn h1 h2 h hj
    have hb := (braced_bound s f _ i d j (Nat.le_refl _) h).1
    cases y with
    | nil => simp at hj; omega
    | cons c y =>
      simp only [List.length_cons] at hn hj
      obtain ⟨a1, a2⟩ := drop_cons' (h1 : s.drop i = c :: (y ++ r))
      obtain ⟨b1, b2⟩ := drop_cons' (h2 : s'.drop i' = c :: (y ++ r'))
      rw [braced_some a1] at h
      rw [braced_some b1]
      split at h
      · rename_i hc
        rw [if_pos hc]
        have hb2 := (braced_bound s f _ (i + 2) d j (Nat.le_refl _) h).1
        cases y with
        | nil => simp at hj; omega
        | cons c2 y =>
          simp only [List.length_cons] at hn hj
          obtain ⟨-, a3⟩ := drop_cons' (a2 : s.drop (i + 1) = c2 :: (y ++ r))
          obtain ⟨-, b3⟩ := drop_cons' (b2 : s'.drop (i' + 1) = c2 :: (y ++ r'))
          have := ih y r r' (i + 2) (i' + 2) d j (by omega) a3 b3 h (by omega)
          rw [this]; congr 1; omega
      · rename_i hc
        rw [if_neg hc]
        split at h
        · rename_i hc2
          rw [if_pos hc2]
          split at h
          · cases h
          · rename_i hd
            rw [if_neg hd]
            have hb2 := (braced_bound s f _ (i + 1) (d + 1) j (Nat.le_refl _) h).1
            have := ih y r r' (i + 1) (i' + 1) (d + 1) j (by omega) a2 b2 h (by omega)
            rw [this]; congr 1; omega
        · rename_i hc2
          rw [if_neg hc2]
          split at h
          · rename_i hc3
            rw [if_pos hc3]
            split at h
            · rename_i hd
              rw [if_pos hd]
              have hb2 := (braced_bound s f _ (i + 1) (d - 1) j (Nat.le_refl _) h).1
              have := ih y r r' (i + 1) (i' + 1) (d - 1) j (by omega) a2 b2 h (by omega)
              rw [this]; congr 1; omega
            · rename_i hd
              rw [if_neg hd]
              cases h; congr 1; omega
          · rename_i hc3
            rw [if_neg hc3]
            have hb2 := (braced_bound s f _ (i + 1) d j (Nat.le_refl _) h).1
            have := ih y r r' (i + 1) (i' + 1) d j (by omega) a2 b2 h (by omega)
            rw [this]; congr 1; omega
theorem whole_step {s : List UInt8} {u r : List UInt8} {i : Nat} (hw : wholeB u = true) (h : s.drop i = 123 :: (u ++ 125 :: r)) : braced s i i 0 = .ok (i + u.length + 2) := by
  unfold wholeB at hw
  split at hw
  · rename_i j hj
    have hj2 : j = u.length + 2 := by simpa using hw
    subst hj2
    have := braced_loc (s' := s) (f' := i) (u.length + 2) (123 :: (u ++ [125])) [] r 0 i 0 _ (by simp) (by simp) (by rw [h]; simp) hj (by simp)
    rw [this]; rfl
  · cases hw
theorem whole_nil : wholeB [] = true := by
  unfold wholeB
  rw [List.nil_append, braced_some (c := 123) rfl, if_neg (by decide), if_pos rfl, if_neg (by decide), braced_some (c := 125) rfl, if_neg (by decide), if_neg (by decide), if_pos rfl, if_neg (by decide)]
  rfl
theorem esc_head (bare behind : Bool) (c : UInt8) (r : List UInt8) (hb : bare = true) : ∃ d x, escB bare behind c ++ r = d :: x ∧ stopB d = false ∧ d ≠ 35 ∧ d ≠ 123 ∧ d ≠ 34 := by
  unfold escB
  split
  · rename_i hx
    simp only [Bool.and_eq_true, Bool.not_eq_true', Bool.and_eq_false_imp] at hx
    obtain ⟨⟨hp, hb2⟩, -⟩ := hx
    have hs := stops_bare.p c hp (fun _ => by have := hb2 hb; simpa using this)
    obtain ⟨-, -, -, h34, h123, h35, -⟩ := plain_fact hp
    exact ⟨c, r, rfl, hs, h35, h123, h34⟩
  · exact ⟨92, _, rfl, by decide, by decide, by decide, by decide⟩
theorem bare_head {ps : List PK} {x : List UInt8} (h : partsK 0 none ps = some x) (hn : ps ≠ []) : ∃ c x', x = c :: x' ∧ stopB c = false ∧ c ≠ 35 ∧ c ≠ 123 ∧ c ≠ 34 := by
  cases ps with
  | nil => exact absurd rfl hn
  | cons p ps =>
    rw [partsK] at h
    split at h
    · cases h
    · rename_i y hy
      split at h
      · cases h
      · rename_i z hz
        cases h
        unfold partK at hy
        split at hy
        · split at hy
          · cases hy
          · cases hy; exact ⟨36, _, rfl, by decide, by decide, by decide, by decide⟩
        · split at hy
          · cases hy
          · rename_i hne
            rw [if_neg (by decide)] at hy
            cases hy
            cases hp : p.2 with
            | nil => exact absurd (.inl hp) hne
            | cons c u =>
              rw [textB, List.append_assoc]
              exact esc_head _ _ c _ (by decide)
theorem parts2 {ps : List PK} {x : List UInt8} (h : partsK 2 none ps = some x) (hn : ¬ 1 < ps.length) : (ps = [] ∧ x = []) ∨ (∃ u, ps = [(false, u)] ∧ u ≠ [] ∧ x = u ∧ wholeB u = true) := by
  cases ps with
  | nil => rw [partsK] at h; cases h; exact .inl ⟨rfl, rfl⟩
  | cons p ps =>
    cases ps with
    | cons q ps => simp at hn
    | nil =>
      rw [partsK] at h
      split at h
      · cases h
      · rename_i y hy
        rw [partsK] at h
        cases h
        unfold partK at hy
        split at hy
        · split at hy
          · cases hy
          · rename_i hne; exact absurd (.inl rfl) hne
        · rename_i hv
          split at hy
          · cases hy
          · rename_i hne
            rw [if_pos rfl] at hy
            cases hy
            refine .inr ⟨p.2, ?_, fun h => hne (.inl h), by simp, ?_⟩
            · have : p.1 = false := by simpa using hv
              rw [← this]
            · cases h : wholeB p.2 with
              | true => rfl
              | false => exact absurd (.inr (.inr ⟨rfl, h⟩)) hne
theorem name_stop {e : UInt8} (h : stopB e = true) : nameB e = false := by
  unfold stopB blankB endB at h
  simp only [Bool.or_eq_true, beq_iff_eq] at h
  rcases h with (rfl | rfl) | (rfl | rfl) <;> rfl
/-- A printed word is read as it was. -/
theorem word_back {s : List UInt8} {i : Nat} {e : UInt8} {r x : List UInt8} {w : WK} (h : wordK w = some x) (hs : s.drop i = x ++ e :: r) (he : stopB e = true) :
    ∃ c j wd, s[i]? = some c ∧ word s i c = .ok (wd, j) ∧ s.drop j = e :: r ∧ i < j ∧ wkeyP wd = w ∧ stopB c = false ∧ c ≠ 35 := by
  unfold wordK at h
  split at h
  · cases h
  · rename_i hk
    split at h
    · cases h
    · rename_i y hy
      cases h
      obtain ⟨kd, ps⟩ := w
      simp only at hk hy hs ⊢
      have hkd : kd = 0 ∨ kd = 1 ∨ kd = 2 := by
        have h1 : ¬ kd < 0 := fun h => hk (.inl h)
        have h2 : ¬ 2 < kd := fun h => hk (.inr (.inl h))
        omega
      rcases hkd with rfl | rfl | rfl
      · rw [if_pos rfl] at hs
        have hne : ps ≠ [] := fun h => hk (.inr (.inr (.inl ⟨rfl, h⟩)))
        obtain ⟨c, x', rfl, h1, h2, h3, h4⟩ := bare_head hy hne
        obtain ⟨hc, -⟩ := drop_cons' (hs : s.drop i = c :: (x' ++ e :: r))
        obtain ⟨j, g1, g2, g3⟩ := parts_back (f := none) (by decide) (by decide) stops_bare he (name_stop he) ps none _ i [] [] hy (.inr rfl) hs
        refine ⟨c, j, ⟨i, 0, flush [] [] ++ ps.map toPart⟩, hc, word_bare_ok h3 h4 g3, g1, ?_, ?_, h1, h2⟩
        · rcases Nat.lt_or_ge i j with h | h
          · exact h
          · have : j = i := by omega
            subst this
            obtain ⟨hce, -⟩ := drop_cons' g1
            rw [hc] at hce
            cases hce
            rw [h1] at he; cases he
        · unfold wkeyP; simp only [flush_nil', List.nil_append, key_toPart]; rfl
      · rw [if_neg (by decide), if_pos rfl] at hs
        have hs2 : s.drop i = 34 :: (y ++ 34 :: (e :: r)) := by rw [hs]; simp
        obtain ⟨hc, hd⟩ := drop_cons' hs2
        obtain ⟨j, g1, g2, g3⟩ := parts_back (f := some i) (e := 34) (r := e :: r) (by decide) (by decide) stops_quote rfl rfl ps none _ (i + 1) [] [] hy (.inr rfl) hd
        obtain ⟨hj, hj2⟩ := drop_cons' g1
        obtain ⟨hj3, -⟩ := drop_cons' hj2
        have hl := lt_of_some hj
        refine ⟨34, j + 1, _, hc, word_q_ok g3 (by omega) (behind_ok hj3 he), hj2, by omega, ?_, rfl, by decide⟩
        unfold wkeyP; simp only [flush_nil', List.nil_append, key_toPart]; rfl
      · rw [if_neg (by decide), if_neg (by decide)] at hs
        have hlen : ¬ 1 < ps.length := fun h => hk (.inr (.inr (.inr ⟨rfl, h⟩)))
        have hd : s.drop i = 123 :: (y ++ 125 :: (e :: r)) := by rw [hs]; simp
        obtain ⟨hc, -⟩ := drop_cons' hd
        have hbr : ∀ u : List UInt8, wholeB u = true → y = u → braced s i i 0 = .ok (i + u.length + 2) ∧ s.drop (i + u.length + 2) = e :: r ∧ sub s (i + 1) (i + u.length + 2 - 1) = u := fun u hu hyu => by
          subst hyu
          refine ⟨whole_step hu hd, ?_, ?_⟩
          · have : s.drop (i + y.length + 2) = (s.drop i).drop (y.length + 2) := by rw [List.drop_drop]; congr 1
            rw [this, hd]
            simp [List.drop_append]
          · unfold sub
            rw [List.drop_take]
            have : s.drop (i + 1) = y ++ 125 :: (e :: r) := (drop_cons' hd).2
            rw [this, show i + y.length + 2 - 1 - (i + 1) = y.length by omega, List.take_left]
        rcases parts2 hy hlen with ⟨rfl, rfl⟩ | ⟨u, rfl, hu, hyu, hw⟩
        · obtain ⟨b1, b2, b3⟩ := hbr [] whole_nil rfl
          obtain ⟨hj3, -⟩ := drop_cons' b2
          refine ⟨123, _, _, hc, word_b_ok b1 (behind_ok hj3 he), b2, by simp, ?_, rfl, by decide⟩
          unfold wkeyP
          simp
        · obtain ⟨b1, b2, b3⟩ := hbr u hw hyu
          obtain ⟨hj3, -⟩ := drop_cons' b2
          refine ⟨123, _, _, hc, word_b_ok b1 (behind_ok hj3 he), b2, by omega, ?_, rfl, by decide⟩
          have hul : u.length ≠ 0 := fun h => hu (List.eq_nil_of_length_eq_zero h)
          unfold wkeyP
          rw [if_neg (by omega), b3]
          rfl
theorem more_head {ws : List WK} {y : List UInt8} (h : moreK ws = some y) {e : UInt8} {r : List UInt8} (he : stopB e = true) : ∃ e' r', y ++ e :: r = e' :: r' ∧ stopB e' = true := by
  cases ws with
  | nil => rw [moreK] at h; cases h; exact ⟨e, r, rfl, he⟩
  | cons w ws =>
    rw [moreK] at h
    split at h
    · cases h
    · split at h
      · cases h
      · cases h; exact ⟨32, _, rfl, rfl⟩
theorem more_back {s : List UInt8} {e : UInt8} {r : List UInt8} (he : stopB e = true) : ∀ (ws : List WK) (y : List UInt8) (i : Nat) (acc : List Word), moreK ws = some y → s.drop i = y ++ e :: r →
    ∃ j wds, s.drop j = e :: r ∧ i ≤ j ∧ command s i acc = command s j (acc ++ wds) ∧ wds.map wkeyP = ws := by
  intro ws
  induction ws with
  | nil =>
    intro y i acc h hs
    rw [moreK] at h; cases h
    exact ⟨i, [], hs, Nat.le_refl _, by simp, rfl⟩
  | cons w ws ih =>
    intro y i acc h hs
    rw [moreK] at h
    split at h
    · cases h
    · rename_i x hx
      split at h
      · cases h
      · rename_i z hz
        cases h
        have hs2 : s.drop i = 32 :: (x ++ (z ++ e :: r)) := by rw [hs]; simp
        obtain ⟨h0, h1⟩ := drop_cons' hs2
        obtain ⟨e', r', hh, he'⟩ := more_head hz (e := e) (r := r) he
        have h1' := h1
        rw [hh] at h1'
        obtain ⟨c, j, wd, g1, g2, g3, g4, g5, g6, -⟩ := word_back hx h1' he'
        rw [← hh] at g3
        obtain ⟨k, wds, k1, k2, k3, k4⟩ := ih z j (acc ++ [wd]) hz g3
        have hne : endB c = false := by simp [stopB] at g6; exact g6.2
        have hnb : blankB c = false := by simp [stopB] at g6; exact g6.1
        refine ⟨k, wd :: wds, k1, by omega, ?_, by rw [List.map_cons, g5, k4]⟩
        rw [command_some h0, if_neg (by decide), if_pos (by decide), command_some g1, hne, if_neg (by decide), hnb, if_neg (by decide), g2]
        simp only
        rw [if_pos g4, k3]
        simp
/-- A printed command is read as it was. -/
theorem cmd_back {s : List UInt8} {e : UInt8} {r x : List UInt8} {c : CK} {i : Nat} (he : stopB e = true) (h : cmdK c = some x) (hs : s.drop i = x ++ e :: r) :
    ∃ ch j wds, s[i]? = some ch ∧ stopB ch = false ∧ ch ≠ 35 ∧ s.drop j = e :: r ∧ i < j ∧ command s i [] = command s j wds ∧ wds.map wkeyP = c := by
  cases c with
  | nil => rw [cmdK] at h; cases h
  | cons w ws =>
    rw [cmdK] at h
    split at h
    · cases h
    · rename_i y hy
      split at h
      · cases h
      · rename_i z hz
        cases h
        rw [List.append_assoc] at hs
        obtain ⟨e', r', hh, he'⟩ := more_head hz (e := e) (r := r) he
        have h1' := hs
        rw [hh] at h1'
        obtain ⟨ch, j, wd, g1, g2, g3, g4, g5, g6, g7⟩ := word_back hy h1' he'
        rw [← hh] at g3
        obtain ⟨k, wds, k1, k2, k3, k4⟩ := more_back he ws z j [wd] hz g3
        have hne : endB ch = false := by simp [stopB] at g6; exact g6.2
        have hnb : blankB ch = false := by simp [stopB] at g6; exact g6.1
        refine ⟨ch, k, wd :: wds, g1, g6, g7, k1, by omega, ?_, by rw [List.map_cons, g5, k4]⟩
        rw [command_some g1, hne, if_neg (by decide), hnb, if_neg (by decide), g2]
        simp only
        rw [if_pos g4, List.nil_append, k3]
        simp
theorem cmd_line {s : List UInt8} {r x : List UInt8} {c : CK} {i : Nat} {l : List Cmd} (h : cmdK c = some x) (hs : s.drop i = x ++ 10 :: r) :
    ∃ j cm, s.drop j = r ∧ i < j ∧ parseGo s i l = parseGo s j (l ++ [cm]) ∧ ckeyP cm = c := by
  obtain ⟨ch, j, wds, g1, g2, g3, g4, g5, g6, g7⟩ := cmd_back (e := 10) rfl h hs
  obtain ⟨h0, h1⟩ := drop_cons' g4
  refine ⟨j + 1, ⟨i, wds⟩, h1, by omega, ?_, g7⟩
  rw [parse_some g1, g2, if_neg (by decide), if_neg g3, g6, command_some h0, if_pos (by decide)]
  simp only
  rw [if_pos g5, parse_some h0, if_pos (by decide)]
theorem print_back {s r : List UInt8} : ∀ (ks : List CK) (t : List UInt8) (i : Nat) (l : List Cmd), printK ks = some t → s.drop i = t ++ r →
    ∃ j cs, s.drop j = r ∧ i ≤ j ∧ parseGo s i l = parseGo s j (l ++ cs) ∧ cs.map ckeyP = ks := by
  intro ks
  induction ks with
  | nil =>
    intro t i l h hs
    rw [printK] at h; cases h
    exact ⟨i, [], hs, Nat.le_refl _, by simp, rfl⟩
  | cons c ks ih =>
    intro t i l h hs
    rw [printK] at h
    split at h
    · cases h
    · rename_i x hx
      split at h
      · cases h
      · rename_i y hy
        cases h
        rw [List.append_assoc] at hs
        obtain ⟨j, cm, g1, g2, g3, g4⟩ := cmd_line (l := l) hx (hs : s.drop i = x ++ 10 :: (y ++ r))
        obtain ⟨k, cs, k1, k2, k3, k4⟩ := ih y j (l ++ [cm]) hy g1
        exact ⟨k, cm :: cs, k1, by omega, by rw [g3, k3]; simp, by rw [List.map_cons, g4, k4]⟩
/-- What is printed is parsed as it was. -/
theorem print_parse {ks : List CK} {t : List UInt8} (h : printK ks = some t) (hl : t.length ≤ 16777216) : ∃ cs, parse t = .ok cs ∧ cs.map ckeyP = ks := by
  obtain ⟨j, cs, g1, g2, g3, g4⟩ := print_back (s := t) (r := []) ks t 0 [] h (by simp)
  refine ⟨cs, ?_, g4⟩
  unfold parse
  rw [if_neg (by omega), g3]
  have hj : t[j]? = none := by rw [← List.head?_drop, g1]; rfl
  rw [parse_none hj]
  simp
end Tcl
end Go.Proofs.Yteodhnblbehenaa
