/- A script in the body of an arm, in plain Lean. No condition. -/
import Derived.Test.YtakcolililbkjaaPlJoinK
set_option linter.unusedVariables false
set_option linter.unusedSimpArgs false
namespace Go.Proofs.Ytakcolililbkjaa
namespace Plan
open Tcl
/-- Braces deeper by `e`: the same, or too deep. -/
theorem braced_deep {s s' : List UInt8} {f f' e : Nat} (he : 0 < e) : ∀ (k i i' d j : Nat), s.length - i ≤ k → braced s f i (d + 1) = .ok j → (∀ m, i + m < j → s'[i' + m]? = s[i + m]?) →
    (∃ b, braced s' f' i' (d + 1 + e) = .error b) ∨ braced s' f' i' (d + 1 + e) = braced s' f' (i' + (j - i)) e := by
  intro k
  induction k with
  | zero =>
    intro i i' d j hk h _
    rw [braced_none (List.getElem?_eq_none (by omega))] at h; cases h
  | succ k ih =>
    intro i i' d j hk h ha
    cases hc : s[i]? with
    | none => rw [braced_none hc] at h; cases h
    | some c =>
      have hil := lt_of_some hc
      have hij : i < j := (braced_bound s f (s.length - i) i (d + 1) j (Nat.le_refl _) h).1
      have hc' : s'[i']? = some c := by have := ha 0 (by omega); simpa [hc] using this
      rw [braced_some hc] at h
      rw [braced_some hc']
      have step : ∀ n d2, braced s f (i + n) (d2 + 1) = .ok j → 0 < n → (∃ b, braced s' f' (i' + n) (d2 + 1 + e) = .error b) ∨ braced s' f' (i' + n) (d2 + 1 + e) = braced s' f' (i' + (j - i)) e := fun n d2 h2 hn => by
        have hb := (braced_bound s f (s.length - (i + n)) (i + n) (d2 + 1) j (Nat.le_refl _) h2).1
        have := ih (i + n) (i' + n) d2 j (by omega) h2 (fun m hm => by have := ha (n + m) (by omega); rw [Nat.add_assoc, Nat.add_assoc]; exact this)
        rw [show i' + n + (j - (i + n)) = i' + (j - i) by omega] at this
        exact this
      by_cases h1 : c = 92
      · rw [if_pos h1] at h ⊢
        exact step 2 d h (by omega)
      · rw [if_neg h1] at h ⊢
        by_cases h2 : c = 123
        · rw [if_pos h2] at h ⊢
          split at h
          · cases h
          · split
            · exact .inl ⟨_, rfl⟩
            · rw [show d + 1 + e + 1 = (d + 1) + 1 + e by omega]
              exact step 1 (d + 1) h (by omega)
        · rw [if_neg h2] at h ⊢
          by_cases h3 : c = 125
          · rw [if_pos h3] at h ⊢
            rw [if_pos (by omega)]
            split at h
            · obtain ⟨d', rfl⟩ : ∃ d', d = d' + 1 := ⟨d - 1, by omega⟩
              rw [show d' + 1 + 1 + e - 1 = d' + 1 + e by omega]
              rw [show d' + 1 + 1 - 1 = d' + 1 by omega] at h
              exact step 1 d' h (by omega)
            · cases h
              right
              rw [show d + 1 + e - 1 = e by omega, show i' + 1 = i' + (i + 1 - i) by omega]
          · rw [if_neg h3] at h ⊢
            exact step 1 d h (by omega)
/-- A byte that stands for itself in a bare word. -/
def selfB (c : UInt8) : Bool := !stopB c && c != 91 && c != 92 && c != 36
theorem bare_run {t : List UInt8} {r : List UInt8} : ∀ (name acc : List UInt8) (i : Nat), (∀ c ∈ name, selfB c = true) → t.drop i = name ++ 32 :: r → partsGo stopB t none i [] acc = .ok (flush [] (acc ++ name), i + name.length) := by
  intro name
  induction name with
  | nil =>
    intro acc i _ h
    have hc : t[i]? = some 32 := by rw [← List.head?_drop, h]; rfl
    rw [parts_some hc, if_pos (by decide)]; simp
  | cons c name ih =>
    intro acc i hn h
    have hc : t[i]? = some c := by rw [← List.head?_drop, h]; rfl
    have hs := hn c (by simp)
    simp only [selfB, Bool.and_eq_true, Bool.not_eq_true', bne_iff_ne, ne_eq] at hs
    rw [parts_some hc, if_neg (by rw [hs.1.1.1]; decide), if_neg hs.1.1.2, if_neg hs.1.2, if_neg hs.2]
    have hd : t.drop (i + 1) = name ++ 32 :: r := by rw [← List.tail_drop, h]; rfl
    rw [ih (acc ++ [c]) (i + 1) (fun x hx => hn x (by simp [hx])) hd]
    simp; omega
theorem parseGo_pre {s : List UInt8} : ∀ (k i : Nat) (l r : List Cmd), s.length - i ≤ k → parseGo s i l = .ok r → ∃ r', r = l ++ r' := by
  intro k
  induction k with
  | zero =>
    intro i l r hk h
    rw [parse_none (List.getElem?_eq_none (by omega))] at h
    cases h
    exact ⟨[], by simp⟩
  | succ k ih =>
    intro i l r hk h
    cases hc : s[i]? with
    | none => rw [parse_none hc] at h; cases h; exact ⟨[], by simp⟩
    | some c =>
      have hl := lt_of_some hc
      rw [parse_some hc] at h
      split at h
      · exact ih _ _ _ (by omega) h
      · split at h
        · split at h
          · exact ih _ _ _ (by omega) h
          · cases h
        · split at h
          · cases h
          · split at h
            · obtain ⟨r', h1⟩ := ih _ _ _ (by omega) h
              exact ⟨_ :: r', by rw [h1, List.append_assoc]; rfl⟩
            · cases h
/-- A command of a bare word and a braced one. -/
theorem two_words {t name r : List UInt8} {c0 : UInt8} {n0 : List UInt8} (ht : t = name ++ 32 :: 123 :: r) (h0 : name = c0 :: n0) (hn : ∀ c ∈ name, selfB c = true) (h35 : c0 ≠ 35) (h123 : c0 ≠ 123) (h34 : c0 ≠ 34) (hlen : t.length ≤ 16777216)
    {l : List Cmd} {c : Cmd} (hp : parse t = .ok l) (hl : l = [c]) (hw : c.words.length = 2) :
    ∃ j, braced t (name.length + 1) (name.length + 1) 0 = .ok j ∧ c = ⟨0, [⟨0, 0, [⟨false, name⟩]⟩, ⟨name.length + 1, 2, if j = name.length + 1 + 2 then [] else [⟨false, sub t (name.length + 1 + 1) (j - 1)⟩]⟩]⟩ := by
  have g : parseGo t 0 [] = .ok l := by unfold parse at hp; rw [if_neg (by omega)] at hp; exact hp
  have hc : t[0]? = some c0 := by rw [ht, h0]; rfl
  have hs0 := hn c0 (by rw [h0]; simp)
  simp only [selfB, Bool.and_eq_true, Bool.not_eq_true', bne_iff_ne, ne_eq] at hs0
  have hst := hs0.1.1.1
  have hst2 : blankB c0 = false ∧ endB c0 = false := by simpa [stopB] using hst
  rw [parse_some hc, if_neg (by rw [hst]; decide), if_neg h35] at g
  have hw0 : word t 0 c0 = .ok (⟨0, 0, [⟨false, name⟩]⟩, name.length) := by
    refine word_bare_ok h123 h34 ?_
    have := bare_run (t := t) (r := 123 :: r) name [] 0 hn (by rw [List.drop_zero]; exact ht)
    rw [this]
    rw [List.nil_append, Nat.zero_add]
    unfold flush
    rw [if_neg (by rw [h0]; simp)]; rfl
  have hb : t[name.length]? = some 32 := by rw [ht, List.getElem?_append_right (Nat.le_refl _), Nat.sub_self]; rfl
  have hb2 : t[name.length + 1]? = some 123 := by rw [ht, List.getElem?_append_right (by omega), Nat.add_sub_cancel_left]; rfl
  have hnl : 0 < name.length := by rw [h0]; simp
  have hcm : command t 0 [] = match word t (name.length + 1) 123 with | .error b => .error b | .ok (w, j) => if name.length + 1 < j then command t j [⟨0, 0, [⟨false, name⟩]⟩, w] else .error (0, 0) := by
    rw [command_some hc, if_neg (by rw [hst2.2]; decide), if_neg (by rw [hst2.1]; decide), hw0]
    simp only [if_pos hnl]
    rw [command_some hb, if_neg (by decide), if_pos (by decide), command_some hb2, if_neg (by decide), if_neg (by decide)]
    rfl
  rw [hcm] at g
  cases hwd : word t (name.length + 1) 123 with
  | error b => rw [hwd] at g; cases g
  | ok x =>
    obtain ⟨w1, j⟩ := x
    rw [hwd] at g
    simp only at g
    have hj : name.length + 1 < j := by
      by_cases hj : name.length + 1 < j
      · exact hj
      · rw [if_neg hj] at g; cases g
    rw [if_pos hj] at g
    cases hcc : command t j [⟨0, 0, [⟨false, name⟩]⟩, w1] with
    | error b => rw [hcc] at g; cases g
    | ok y =>
      obtain ⟨ws, j0⟩ := y
      rw [hcc] at g
      simp only at g
      have hws : ∃ r', ws = [⟨0, 0, [⟨false, name⟩]⟩, w1] ++ r' := by
        have hjl := (word_bound hb2 (by decide) hwd).2
        have hin := command_places (t.length - j) j [⟨0, 0, [⟨false, name⟩]⟩, w1] ws j0 (Nat.le_refl _) hjl hcc
        have hp1 := word_place hb2 hwd
        obtain ⟨⟨r', h1, -⟩, -⟩ := hin (fun w hw => by
          simp at hw
          rcases hw with rfl | rfl
          · exact ⟨by simp only; have := lt_of_some hc; omega, fun h => by simp at h⟩
          · exact ⟨by have := lt_of_some hb2; omega, fun h => by have := hp1.2 h; omega⟩)
        exact ⟨r', h1⟩
      split at g
      · obtain ⟨r2, hr2⟩ := parseGo_pre (t.length - j0) j0 _ _ (Nat.le_refl _) g
        rw [hl] at hr2
        simp only [List.nil_append, List.cons_append, List.cons.injEq] at hr2
        obtain ⟨rfl, -⟩ := hr2
        obtain ⟨r', rfl⟩ := hws
        simp only [List.length_append, List.length_cons, List.length_nil] at hw
        obtain rfl : r' = [] := List.length_eq_zero_iff.1 (by omega)
        unfold word at hwd
        rw [if_pos rfl] at hwd
        split at hwd
        · cases hwd
        · rename_i j' hbr
          split at hwd
          · cases hwd
          · cases hwd
            exact ⟨j, hbr, rfl⟩
      · cases g
theorem cmdOp_true {rec : List UInt8 → Nat → Except Bad (List Op)} {c : Cmd} {o : Op} (h : cmdOp rec false c = .ok o) : cmdOp rec true c = .ok o := by
  unfold cmdOp at h ⊢
  split at h
  · cases h
  · split at h
    · cases h
    · split at h
      · cases h
      · split at h
        · cases h
        · rename_i h1
          rw [if_neg h1]
          split at h
          · cases h
          · rw [if_neg (by simp)]; exact h
theorem cmdsGo_true {rec : List UInt8 → Nat → Except Bad (List Op)} : ∀ {cs : List Cmd} {acc l : List Op}, cmdsGo rec false cs acc = .ok l → cmdsGo rec true cs acc = .ok l := by
  intro cs
  induction cs with
  | nil => intro acc l h; exact h
  | cons c r ih =>
    intro acc l h
    simp only [cmdsGo] at h ⊢
    split at h
    · cases h
    · rename_i o ho
      rw [cmdOp_true ho]
      exact ih h
theorem script_true {n : Nat} {s : List UInt8} {b : Nat} {l : List Op} (h : script n s b false = .ok l) : script n s b true = .ok l := by
  cases n with
  | zero => simp only [script] at h; cases h
  | succ n =>
    simp only [script] at h ⊢
    split at h
    · cases h
    · exact cmdsGo_true h
def eS (s : List UInt8) : List UInt8 := [101, 111, 102] ++ 32 :: 123 :: (s ++ [125])
def xS (s : List UInt8) : List UInt8 := [101, 120, 112, 101, 99, 116] ++ 32 :: 123 :: (eS s ++ [125])
theorem eS_len (s : List UInt8) : (eS s).length = s.length + 6 := by simp [eS]
theorem xS_len (s : List UInt8) : (xS s).length = s.length + 15 := by simp [xS, eS_len]
theorem xS_at (s : List UInt8) (k : Nat) (h : k < s.length + 6) : (xS s)[8 + k]? = (eS s)[k]? := by
  have e : xS s = [101, 120, 112, 101, 99, 116, 32, 123] ++ (eS s ++ [125]) := rfl
  rw [e, List.getElem?_append_right (by simp), show 8 + k - ([101, 120, 112, 101, 99, 116, 32, 123] : List UInt8).length = k by simp, List.getElem?_append_left (by rw [eS_len]; exact h)]
theorem plan_body {s : List UInt8} {a : List Op} (hlen : s.length ≤ 2000) {c d : Cmd} (h1 : parse (xS s) = .ok [c]) (hc : c.words.length = 2) (h2 : parse (eS s) = .ok [d]) (hd : d.words.length = 2) {w1 : Word} (hd1 : d.words[1]? = some w1) (ho : openT w1 = s) (h3 : planOf s = .ok a) :
    planOf (xS s) = .ok [.mk 3 0 [] [.mk 3 ⟨0, 0, []⟩ (shOs 13 a)]] := by
  have lE := eS_len s
  have lX := xS_len s
  obtain ⟨j1, hb1, rfl⟩ := two_words (t := eS s) (name := [101, 111, 102]) (r := s ++ [125]) rfl rfl (by decide) (by decide) (by decide) (by decide) (by omega) h2 rfl hd
  obtain ⟨j2, hb2, rfl⟩ := two_words (t := xS s) (name := [101, 120, 112, 101, 99, 116]) (r := eS s ++ [125]) rfl rfl (by decide) (by decide) (by decide) (by decide) (by omega) h1 rfl hc
  simp only [List.length_cons, List.length_nil, Nat.zero_add, Nat.reduceAdd] at hb1 hb2 hd1 h1 h2
  simp only [List.getElem?_cons_succ, List.getElem?_cons_zero, Option.some.injEq] at hd1
  have e4 : (eS s)[4]? = some 123 := rfl
  have hb1' := hb1
  rw [braced_some e4, if_neg (by decide), if_pos rfl, if_neg (by decide)] at hb1'
  have hbd := braced_bound (eS s) 4 ((eS s).length - 5) 5 (0 + 1) j1 (Nat.le_refl _) hb1'
  have hsub : sub (eS s) 5 (j1 - 1) = s := by
    rw [← hd1] at ho
    unfold openT at ho
    simp only at ho
    split at ho
    · rename_i h6
      rw [← ho, h6]
      simp [sub]
    · simpa using ho
  have hj1 : j1 = s.length + 6 := by
    have := congrArg List.length hsub
    simp [sub] at this
    omega
  subst hj1
  have x7 : (xS s)[7]? = some 123 := rfl
  have x8 : (xS s)[8]? = some 101 := rfl
  have x9 : (xS s)[9]? = some 111 := rfl
  have x10 : (xS s)[10]? = some 102 := rfl
  have x11 : (xS s)[11]? = some 32 := rfl
  have x12 : (xS s)[12]? = some 123 := rfl
  have hb2' := hb2
  rw [braced_some x7, if_neg (by decide), if_pos rfl, if_neg (by decide), braced_some x8, if_neg (by decide), if_neg (by decide), if_neg (by decide), braced_some x9, if_neg (by decide), if_neg (by decide), if_neg (by decide),
    braced_some x10, if_neg (by decide), if_neg (by decide), if_neg (by decide), braced_some x11, if_neg (by decide), if_neg (by decide), if_neg (by decide), braced_some x12, if_neg (by decide), if_pos rfl, if_neg (by decide)] at hb2'
  have hj2 : j2 = s.length + 15 := by
    rcases braced_deep (s := eS s) (s' := xS s) (f := 4) (f' := 7) (e := 1) (by decide) ((eS s).length - 5) 5 13 0 (s.length + 6) (Nat.le_refl _) hb1' (fun m hm => by
      have := xS_at s (5 + m) (by omega)
      rw [show 8 + (5 + m) = 13 + m by omega] at this
      exact this) with ⟨b, hb⟩ | hb
    · rw [show (0 + 1 + 1 : Nat) = 0 + 1 + 1 from rfl] at hb
      rw [hb] at hb2'; cases hb2'
    · rw [hb] at hb2'
      have xl : (xS s)[13 + (s.length + 6 - 5)]? = some 125 := by
        have e : xS s = ([101, 120, 112, 101, 99, 116, 32, 123] ++ eS s) ++ [125] := rfl
        rw [e, List.getElem?_append_right (by simp [eS_len]; omega)]
        have : 13 + (s.length + 6 - 5) - ([101, 120, 112, 101, 99, 116, 32, 123] ++ eS s).length = 0 := by simp [eS_len]; omega
        rw [this]; rfl
      rw [braced_some xl, if_neg (by decide), if_neg (by decide), if_pos rfl, if_neg (by decide)] at hb2'
      cases hb2'; omega
  subst hj2
  have hsubX : sub (xS s) 8 (s.length + 15 - 1) = eS s := by
    have e : xS s = [101, 120, 112, 101, 99, 116, 32, 123] ++ (eS s ++ [125]) := rfl
    unfold sub
    rw [e, List.take_append, List.take_of_length_le (by simp), List.drop_append]
    simp [eS_len]
  obtain ⟨ps, hps⟩ : ∃ ps, (if s.length + 6 = 4 + 2 then ([] : List Part) else [⟨false, sub (eS s) (4 + 1) (s.length + 6 - 1)⟩]) = ps := ⟨_, rfl⟩
  have hops : ∀ a, openT ⟨a, 2, ps⟩ = s := fun a => by
    rw [← hps]
    unfold openT
    simp only
    split
    · rename_i h6
      have : s.length = 0 := by omega
      rw [List.length_eq_zero_iff.1 this]; rfl
    · simpa using hsub
  have h6' : (⟨0, [⟨0, 0, [⟨false, [101, 111, 102]⟩]⟩, ⟨4, 2, ps⟩]⟩ : Cmd) = ⟨0, [⟨0, 0, [⟨false, [101, 111, 102]⟩]⟩, ⟨4, 2, if s.length + 6 = 6 then [] else [⟨false, sub (eS s) 5 (s.length + 6 - 1)⟩]⟩]⟩ := by rw [← hps]
  rw [← h6'] at h2
  have h9 : ¬ (s.length + 15 = 9) := by omega
  rw [if_neg h9, hsubX] at h1
  unfold planOf
  simp only [script]
  rw [parseAt_zero, h1]
  simp only
  have hpE : parseAt (eS s) (7 + 1) = .ok [⟨8, [⟨8, 0, [⟨false, [101, 111, 102]⟩]⟩, ⟨12, 2, ps⟩]⟩] := by
    unfold parseAt
    rw [h2]; rfl
  have hrec : script (xS s).length s (12 + 1) true = .ok (shOs 13 a) := by
    have e1 : script (xS s).length s 0 true = .ok a := by
      rw [script_fuel _ (s.length + 1) s 0 true (by omega) (by omega)]
      exact script_true h3
    have := script_sh 13 (xS s).length s 0 true
    rw [e1, Nat.zero_add] at this
    rw [this]; rfl
  have hform : formOf [101, 120, 112, 101, 99, 116] = some (3, 1, 1073741824) := by decide
  have hA : argsA [⟨7, 2, [⟨false, eS s⟩]⟩] = .ok [⟨8, 0, [⟨false, [101, 111, 102]⟩]⟩, ⟨12, 2, ps⟩] := by
    unfold argsA
    simp only
    rw [if_pos trivial]
    have : openT ⟨7, 2, [⟨false, eS s⟩]⟩ = eS s := by simp [openT]
    rw [this, hpE]; rfl
  have hG : armsGo (fun t b => script (xS s).length t b true) 2 [⟨8, 0, [⟨false, [101, 111, 102]⟩]⟩, ⟨12, 2, ps⟩] [] = .ok [.mk 3 ⟨0, 0, []⟩ (shOs 13 a)] := by
    have hf : flagged ⟨8, 0, [⟨false, [101, 111, 102]⟩]⟩ = some 3 := by decide
    have hh : headA ⟨8, 0, [⟨false, [101, 111, 102]⟩]⟩ [⟨12, 2, ps⟩] = .ok (3, ⟨0, 0, []⟩, [⟨12, 2, ps⟩]) := by unfold headA; rw [hf]; rfl
    have hbd2 : bodyA (fun t b => script (xS s).length t b true) [⟨12, 2, ps⟩] = .ok (shOs 13 a, []) := by
      unfold bodyA
      simp only
      rw [if_pos trivial, hops, hrec]
    rw [armsGo, if_neg (by simp), hh]
    simp only
    rw [hbd2]
    rfl
  have hO : cmdOp (fun t b => script (xS s).length t b true) false ⟨0, [⟨0, 0, [⟨false, [101, 120, 112, 101, 99, 116]⟩]⟩, ⟨7, 2, [⟨false, eS s⟩]⟩]⟩ = .ok (.mk 3 0 [] [.mk 3 ⟨0, 0, []⟩ (shOs 13 a)]) := by
    unfold cmdOp
    simp only [oneT]
    rw [if_neg (by simp)]
    simp only
    rw [hform]
    simp only [List.length_cons, List.length_nil]
    rw [if_neg (by decide), if_neg (by decide), if_neg (by decide), hA]
    simp only [List.length_cons, List.length_nil]
    rw [hG]
  rw [cmdsGo, hO]
  rfl
end Plan
end Go.Proofs.Ytakcolililbkjaa
