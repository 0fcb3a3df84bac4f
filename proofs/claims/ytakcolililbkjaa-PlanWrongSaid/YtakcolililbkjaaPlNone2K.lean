/- Where a command is told whose name there isn't, no known name stands: plain Lean. No condition. -/
import Derived.Test.YtakcolililbkjaaPlNoneK
set_option linter.unusedVariables false
set_option linter.unusedSimpArgs false
namespace Go.Proofs.Ytakcolililbkjaa
namespace Plan
open Tcl
theorem command_brc {s : List UInt8} : ∀ (k i : Nat) (ws r : List Word) (j : Nat), s.length - i ≤ k → command s i ws = .ok (r, j) → ∃ r', r = ws ++ r' ∧ ∀ w ∈ r', Brc s w := by
  intro k
  induction k with
  | zero =>
    intro i ws r j hk h
    rw [command_none (List.getElem?_eq_none (by omega))] at h
    cases h; exact ⟨[], by simp, by simp⟩
  | succ k ih =>
    intro i ws r j hk h
    cases hc : s[i]? with
    | none => rw [command_none hc] at h; cases h; exact ⟨[], by simp, by simp⟩
    | some c =>
      have hi := lt_of_some hc
      rw [command_some hc] at h
      split at h
      · cases h; exact ⟨[], by simp, by simp⟩
      · split at h
        · exact ih _ _ _ _ (by omega) h
        · split at h
          · cases h
          · rename_i w j' hw
            split at h
            · obtain ⟨r', h1, h2⟩ := ih _ _ _ _ (by omega) h
              refine ⟨w :: r', by rw [h1]; simp, fun x hx => ?_⟩
              rcases List.mem_cons.1 hx with rfl | hx
              · exact word_brc hc hw
              · exact h2 x hx
            · cases h
/-- A command's first word stands at its place; braced words end with braces. -/
def First (s : List UInt8) (c : Cmd) : Prop := ∃ ch w j ws, s[c.at_]? = some ch ∧ word s c.at_ ch = .ok (w, j) ∧ c.words = w :: ws ∧ ∀ x ∈ c.words, Brc s x
theorem parse_first' {s : List UInt8} : ∀ (k i : Nat) (l r : List Cmd), s.length - i ≤ k → (∀ c ∈ l, First s c) → parseGo s i l = .ok r → ∀ c ∈ r, First s c := by
  intro k
  induction k with
  | zero =>
    intro i l r hk hl h
    rw [parse_none (List.getElem?_eq_none (by omega))] at h
    cases h; exact hl
  | succ k ih =>
    intro i l r hk hl h
    cases hc : s[i]? with
    | none => rw [parse_none hc] at h; cases h; exact hl
    | some c =>
      have hi := lt_of_some hc
      rw [parse_some hc] at h
      split at h
      · exact ih _ _ _ (by omega) hl h
      · rename_i hst
        split at h
        · split at h
          · exact ih _ _ _ (by omega) hl h
          · cases h
        · split at h
          · cases h
          · rename_i ws j hcm
            split at h
            · refine ih _ _ _ (by omega) (fun x hx => ?_) h
              rcases List.mem_append.1 hx with hx | hx
              · exact hl x hx
              · simp at hx; subst hx
                have hst2 : blankB c = false ∧ endB c = false := by simpa [stopB] using hst
                rw [command_some hc, if_neg (by rw [hst2.2]; decide), if_neg (by rw [hst2.1]; decide)] at hcm
                split at hcm
                · cases hcm
                · rename_i w j' hw
                  split at hcm
                  · obtain ⟨r', h1, h2⟩ := command_brc (s.length - j') j' _ _ _ (Nat.le_refl _) hcm
                    refine ⟨c, w, j', r', hc, hw, by rw [h1]; rfl, fun x hx => ?_⟩
                    have hx' : x ∈ ws := hx
                    rw [h1] at hx'
                    simp at hx'
                    rcases hx' with rfl | hx'
                    · exact word_brc hc hw
                    · exact h2 x hx'
                  · cases hcm
            · cases h
theorem parse_first2 {s : List UInt8} {cs : List Cmd} (h : parse s = .ok cs) : ∀ c ∈ cs, First s c := by
  unfold parse at h
  split at h
  · cases h
  · exact parse_first' _ _ _ _ (Nat.le_refl _) (by simp) h
/-- A text that lies in another one, ahead of a brace or the end. -/
def Lies (S : List UInt8) (b : Nat) (t : List UInt8) : Prop := ∃ r, S.drop b = t ++ r ∧ (r = [] ∨ ∃ r', r = 125 :: r')
/-- No known name stands there, with a blank behind or alone. -/
def NoName (u : List UInt8) : Prop := ∀ e ∈ formL, u ≠ e.1 ∧ ∀ r, u ≠ e.1 ++ 32 :: r
theorem bare_run3 {t : List UInt8} {r : List UInt8} (hr : r = [] ∨ ∃ r', r = 32 :: r') : ∀ (name acc : List UInt8) (i : Nat), (∀ c ∈ name, selfB c = true) → t.drop i = name ++ r → partsGo stopB t none i [] acc = .ok (flush [] (acc ++ name), i + name.length) := by
  intro name
  induction name with
  | nil =>
    intro acc i _ h
    rcases hr with rfl | ⟨r', rfl⟩
    · rw [parts_none (List.getElem?_eq_none (List.drop_eq_nil_iff.1 h))]; simp
    · have hc : t[i]? = some 32 := by rw [← List.head?_drop, h]; rfl
      rw [parts_some hc, if_pos (by decide)]; simp
  | cons c name ih =>
    intro acc i hn h
    have hc : t[i]? = some c := by rw [← List.head?_drop, h]; rfl
    have hs := hn c (by simp)
    simp only [selfB, Bool.and_eq_true, Bool.not_eq_true', bne_iff_ne, ne_eq] at hs
    rw [parts_some hc, if_neg (by rw [hs.1.1.1]; decide), if_neg hs.1.1.2, if_neg hs.1.2, if_neg hs.2]
    have hd : t.drop (i + 1) = name ++ r := by rw [← List.tail_drop, h]; rfl
    rw [ih (acc ++ [c]) (i + 1) (fun x hx => hn x (by simp [hx])) hd]
    simp; omega
theorem names_ok : ∀ e ∈ formL, (e.1.all (fun c => selfB c && c != 125) && e.1.headD 123 != 123 && e.1.headD 123 != 34) = true ∧ (formOf e.1).isSome = true := by decide
theorem no_name {S t : List UInt8} {b q : Nat} {ch : UInt8} {w : Word} {j : Nat} {name : List UInt8} (hL : Lies S b t) (hc : t[q]? = some ch) (hw : word t q ch = .ok (w, j)) (ho : oneT w = some name) (hf : formOf name = none) : NoName (S.drop (b + q)) := by
  obtain ⟨r, hS, hr⟩ := hL
  have hq := lt_of_some hc
  have hD : S.drop (b + q) = t.drop q ++ r := by rw [← List.drop_drop, hS, List.drop_append_of_le_length (by omega)]
  have key : ∀ e ∈ formL, ∀ y, (y = [] ∨ ∃ y0, y = 32 :: y0) → S.drop (b + q) ≠ e.1 ++ y := by
    intro e he y hy h
    obtain ⟨h1, h2⟩ := names_ok e he
    simp only [Bool.and_eq_true, bne_iff_ne, ne_eq, List.all_eq_true] at h1
    obtain ⟨⟨h3, h4⟩, h5⟩ := h1
    rw [hD] at h
    obtain ⟨y', hA, hy'⟩ : ∃ y', t.drop q = e.1 ++ y' ∧ (y' = [] ∨ ∃ y0, y' = 32 :: y0) := by
      rcases List.append_eq_append_iff.1 h with ⟨a, ha1, ha2⟩ | ⟨a, ha1, ha2⟩
      · cases a with
        | nil => exact ⟨[], by rw [ha1]; simp, .inl rfl⟩
        | cons z a =>
          rcases hr with rfl | ⟨r', rfl⟩
          · cases ha2
          · simp only [List.cons_append, List.cons.injEq] at ha2
            exact absurd ha2.1.symm (h3 z (by rw [ha1]; simp)).2
      · cases a with
        | nil => exact ⟨[], ha1, .inl rfl⟩
        | cons z a =>
          refine ⟨z :: a, ha1, .inr ?_⟩
          rcases hy with rfl | ⟨y0, rfl⟩
          · cases ha2
          · simp only [List.cons_append, List.cons.injEq] at ha2
            exact ⟨a, by rw [ha2.1]⟩
    obtain ⟨x, hx⟩ : ∃ x, e.1 = x := ⟨_, rfl⟩
    rw [hx] at h2 h3 h4 h5 hA
    cases x with
    | nil => exact h4 rfl
    | cons c0 n0 =>
      have hc0 : t[q]? = some c0 := by rw [← List.head?_drop, hA]; rfl
      rw [hc] at hc0; cases hc0
      have := word_bare_ok (s := t) (i := q) (c := ch) h4 h5 (bare_run3 hy' (ch :: n0) [] q (fun c hc => (h3 c hc).1) hA)
      rw [hw] at this
      have e2 : w = ⟨q, 0, flush [] ([] ++ ch :: n0)⟩ := congrArg Prod.fst (Except.ok.inj this)
      rw [e2] at ho
      have e3 : name = ch :: n0 := by
        have : oneT ⟨q, 0, flush [] ([] ++ ch :: n0)⟩ = some (ch :: n0) := rfl
        rw [this] at ho
        exact (Option.some.inj ho).symm
      rw [← e3, hf] at h2
      cases h2
  intro e he
  exact ⟨fun h => key e he [] (.inl rfl) (by rw [h]; simp), fun r h => key e he (32 :: r) (.inr ⟨r, rfl⟩) h⟩
theorem brc_lies {S t : List UInt8} {b : Nat} (hL : Lies S b t) {w : Word} (h : Brc t w) : Brc S (shiftW b w) := by
  intro hk
  obtain ⟨r', h1⟩ := h hk
  obtain ⟨r, hS, -⟩ := hL
  refine ⟨r' ++ r, ?_⟩
  have hl : w.at_ + 1 < t.length := by
    have := congrArg List.length h1
    simp at this; omega
  have : (shiftW b w).at_ + 1 = b + (w.at_ + 1) := by show w.at_ + b + 1 = _; omega
  rw [this, ← List.drop_drop, hS, List.drop_append_of_le_length (by omega), h1, List.append_assoc]
  rfl
theorem oneT_shift (b : Nat) (w : Word) : oneT (shiftW b w) = oneT w := rfl
theorem parseAt_lo {t : List UInt8} {b p q : Nat} (h : parseAt t b = .error (p, q)) : q ≤ 7 := by
  unfold parseAt at h
  split at h
  · rename_i e he
    cases h
    exact parse_lo (p := e.1) (q := e.2) he
  · cases h
theorem parseAt_words {S t : List UInt8} {b : Nat} {cs : List Cmd} (hL : Lies S b t) (h : parseAt t b = .ok cs) : ∀ c ∈ cs, ∀ w ∈ c.words, Brc S w := by
  unfold parseAt at h
  split at h
  · cases h
  · rename_i cs0 h0
    cases h
    intro c hc w hw
    obtain ⟨c0, hc0, rfl⟩ := List.mem_map.1 hc
    obtain ⟨w0, hw0, rfl⟩ := List.mem_map.1 hw
    obtain ⟨_, _, _, _, _, _, _, h5⟩ := parse_first2 h0 c0 hc0
    exact brc_lies hL (h5 w0 hw0)
def RecNone (S : List UInt8) (rec : List UInt8 → Nat → Except Bad (List Op)) : Prop := ∀ u b p, Lies S b u → rec u b = .error (p, 8) → NoName (S.drop p)
theorem bodyA_none {S : List UInt8} {rec : List UInt8 → Nat → Except Bad (List Op)} (hrec : RecNone S rec) {l : List Word} (hl : ∀ w ∈ l, Brc S w) {p : Nat} (h : bodyA rec l = .error (p, 8)) : NoName (S.drop p) := by
  unfold bodyA at h
  split at h
  · cases h
  · rename_i w r
    split at h
    · rename_i hk
      split at h
      · rename_i b hb
        cases h
        obtain ⟨r', h1⟩ := hl w (by simp) hk
        exact hrec _ _ _ ⟨_, h1, .inr ⟨r', rfl⟩⟩ hb
      · cases h
    · cases h
theorem bodyA_rest {rec : List UInt8 → Nat → Except Bad (List Op)} {l l' : List Word} {b : List Op} (h : bodyA rec l = .ok (b, l')) : ∀ w ∈ l', w ∈ l := by
  unfold bodyA at h
  split at h
  · cases h; simp
  · split at h
    · split at h
      · cases h
      · cases h; intro w hw; simp [hw]
    · cases h; intro w hw; exact hw
theorem headA_rest {first : Word} {l l' : List Word} {k : Nat} {p : Word} (h : headA first l = .ok (k, p, l')) : ∀ w ∈ l', w ∈ l := by
  unfold headA at h
  split at h
  · cases h; intro w hw; exact hw
  · split at h
    · split at h
      · cases h
      · cases h; intro w hw; simp [hw]
    · cases h; intro w hw; exact hw
theorem headA_lo {first : Word} {l : List Word} {p q : Nat} (h : headA first l = .error (p, q)) : q = 2 := by
  unfold headA at h
  split at h
  · cases h
  · split at h
    · split at h
      · cases h; rfl
      · cases h
    · cases h
theorem armsGo_none {S : List UInt8} {rec : List UInt8 → Nat → Except Bad (List Op)} (hrec : RecNone S rec) : ∀ (n : Nat) (l : List Word) (acc : List Arm) (p : Nat), (∀ w ∈ l, Brc S w) → armsGo rec n l acc = .error (p, 8) → NoName (S.drop p) := by
  intro n
  induction n with
  | zero =>
    intro l acc p hl h
    cases l with
    | nil => rw [armsGo] at h; cases h
    | cons w l => rw [armsGo] at h; cases h
  | succ n ih =>
    intro l acc p hl h
    cases l with
    | nil => rw [armsGo] at h; cases h
    | cons w l =>
      rw [armsGo] at h
      split at h
      · cases h
      · split at h
        · rename_i b hb
          cases h
          have := headA_lo hb
          cases this
        · rename_i k pw l2 hh
          have h2 := headA_rest hh
          split at h
          · rename_i b hb
            cases h
            exact bodyA_none hrec (fun x hx => hl x (by simp [h2 x hx])) hb
          · rename_i body l3 hb
            have h3 := bodyA_rest hb
            exact ih _ _ _ (fun x hx => hl x (by simp [h2 x (h3 x hx)])) h
theorem argsA_lo {args : List Word} {p q : Nat} (h : argsA args = .error (p, q)) : q ≤ 7 := by
  unfold argsA at h
  split at h
  · split at h
    · split at h
      · rename_i b hb
        cases h
        exact parseAt_lo hb
      · cases h
    · cases h
  · cases h
theorem argsA_brc {S : List UInt8} {args ws : List Word} (ha : ∀ w ∈ args, Brc S w) (h : argsA args = .ok ws) : ∀ w ∈ ws, Brc S w := by
  unfold argsA at h
  split at h
  · rename_i a
    split at h
    · rename_i hk
      split at h
      · cases h
      · rename_i l hl
        cases h
        obtain ⟨r, h1⟩ := ha a (by simp) hk
        intro w hw
        simp only [List.mem_flatten, List.mem_map] at hw
        obtain ⟨x, ⟨c, hc, rfl⟩, hw⟩ := hw
        exact parseAt_words ⟨_, h1, .inr ⟨r, rfl⟩⟩ hl c hc w hw
    · cases h; exact ha
  · cases h; exact ha
theorem cmdOp_none {S t : List UInt8} {b : Nat} {rec : List UInt8 → Nat → Except Bad (List Op)} (hrec : RecNone S rec) (hL : Lies S b t) {body : Bool} {c : Cmd} (hc : First t c) {p : Nat} (h : cmdOp rec body (shiftC b c) = .error (p, 8)) : NoName (S.drop p) := by
  obtain ⟨ch, w, j, ws, h1, h2, h3, h4⟩ := hc
  have e : (shiftC b c).words = shiftW b w :: ws.map (shiftW b) := by show c.words.map _ = _; rw [h3]; rfl
  unfold cmdOp at h
  rw [e] at h
  simp only at h
  rw [oneT_shift] at h
  split at h
  · cases h
  · rename_i name hn
    split at h
    · rename_i hf
      cases h
      show NoName (S.drop (c.at_ + b))
      rw [Nat.add_comm]
      exact no_name hL h1 h2 hn hf
    · split at h
      · cases h
      · split at h
        · cases h
        · split at h
          · cases h
          · have hargs : ∀ x ∈ ws.map (shiftW b), Brc S x := fun x hx => by
              obtain ⟨y, hy, rfl⟩ := List.mem_map.1 hx
              exact brc_lies hL (h4 y (by rw [h3]; simp [hy]))
            split at h
            · rename_i e1 he
              cases h
              have := argsA_lo he
              omega
            · rename_i ws2 he
              split at h
              · rename_i e1 hb
                cases h
                exact armsGo_none hrec _ _ _ _ (argsA_brc hargs he) hb
              · cases h
              · cases h
theorem cmdsGo_none {S t : List UInt8} {b : Nat} {rec : List UInt8 → Nat → Except Bad (List Op)} (hrec : RecNone S rec) (hL : Lies S b t) {body : Bool} {p : Nat} : ∀ (cs : List Cmd) (acc : List Op), (∀ c ∈ cs, First t c) → cmdsGo rec body (cs.map (shiftC b)) acc = .error (p, 8) → NoName (S.drop p) := by
  intro cs
  induction cs with
  | nil => intro acc _ h; rw [List.map_nil, cmdsGo] at h; cases h
  | cons c cs ih =>
    intro acc hc h
    rw [List.map_cons, cmdsGo] at h
    split at h
    · rename_i e he
      cases h
      exact cmdOp_none hrec hL (hc c (by simp)) he
    · exact ih _ (fun x hx => hc x (by simp [hx])) h
theorem script_none {S : List UInt8} : ∀ (n : Nat) (t : List UInt8) (b : Nat) (body : Bool) (p : Nat), Lies S b t → script n t b body = .error (p, 8) → NoName (S.drop p) := by
  intro n
  induction n with
  | zero => intro t b body p _ h; rw [script] at h; cases h
  | succ n ih =>
    intro t b body p hL h
    rw [script] at h
    split at h
    · rename_i e he
      cases h
      have := parseAt_lo he
      omega
    · rename_i cs he
      unfold parseAt at he
      split at he
      · cases he
      · rename_i cs0 h0
        cases he
        exact cmdsGo_none (fun u b' p' hu hr => ih u b' true p' hu hr) hL cs0 [] (parse_first2 h0) h
theorem plan_none {s : List UInt8} {p : Nat} (h : planOf s = .error (p, 8)) : NoName (s.drop p) :=
  script_none _ s 0 false p ⟨[], by simp, .inl rfl⟩ h
end Plan
end Go.Proofs.Ytakcolililbkjaa
