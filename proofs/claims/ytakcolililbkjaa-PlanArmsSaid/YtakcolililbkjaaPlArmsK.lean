/- An expect's arms as they are written, in plain Lean: no program in sight. No condition. -/
import Derived.Test.YtakcolililbkjaaPlBodyK
import Derived.Test.YtakcolililbkjaaTclPrK
import Derived.KernelRfl
set_option linter.unusedVariables false
set_option linter.unusedSimpArgs false
namespace Go.Proofs.Ytakcolililbkjaa
namespace Plan
open Tcl
/-- A word as it is written: its text, its kind, its parts. -/
structure Tk where
  t : List UInt8
  k : Nat
  ps : List Part
/-- It is read as this word wherever it stands ahead of a blank or the end. -/
structure TkOk (w : Tk) : Prop where
  rd : ∀ (s : List UInt8) (i : Nat) (r : List UInt8), s.drop i = w.t ++ r → (r = [] ∨ ∃ r', r = 32 :: r') → word s i (w.t.headD 0) = .ok (⟨i, w.k, w.ps⟩, i + w.t.length)
  hd : ∃ c t', w.t = c :: t' ∧ stopB c = false ∧ c ≠ 35
/-- Braces are balanced, one deep at most. -/
def Flat (t : List UInt8) : Prop := ∀ (s : List UInt8) (f i d : Nat) (r : List UInt8), s.drop i = t ++ r → braced s f i (d + 1) = braced s f (i + t.length) (d + 1)
def Bal (t : List UInt8) : Prop := ∀ (s : List UInt8) (f i d : Nat) (r : List UInt8), d ≤ 60 → s.drop i = t ++ r → braced s f i (d + 1) = braced s f (i + t.length) (d + 1)
theorem Flat.bal {t : List UInt8} (h : Flat t) : Bal t := fun s f i d r _ hr => h s f i d r hr
theorem drop_app {s a r : List UInt8} {i : Nat} (h : s.drop i = a ++ r) : s.drop (i + a.length) = r := by
  rw [← List.drop_drop, h, List.drop_left]
theorem flat_nil : Flat [] := fun s f i d r _ => by simp
theorem flat_app {a b : List UInt8} (ha : Flat a) (hb : Flat b) : Flat (a ++ b) := fun s f i d r h => by
  rw [List.append_assoc] at h
  rw [ha s f i d _ h, hb s f _ d r (drop_app h), List.length_append, Nat.add_assoc]
theorem bal_app {a b : List UInt8} (ha : Bal a) (hb : Bal b) : Bal (a ++ b) := fun s f i d r hd h => by
  rw [List.append_assoc] at h
  rw [ha s f i d _ hd h, hb s f _ d r hd (drop_app h), List.length_append, Nat.add_assoc]
theorem flat_one {c : UInt8} (h1 : c ≠ 92) (h2 : c ≠ 123) (h3 : c ≠ 125) : Flat [c] := fun s f i d r h => by
  rw [braced_some (drop_cons' h).1, if_neg h1, if_neg h2, if_neg h3]; rfl
theorem flat_two (c : UInt8) : Flat [92, c] := fun s f i d r h => by
  rw [braced_some (drop_cons' h).1, if_pos rfl]; rfl
theorem flat_all : ∀ {t : List UInt8}, (∀ c ∈ t, c ≠ 92 ∧ c ≠ 123 ∧ c ≠ 125) → Flat t
  | [], _ => flat_nil
  | c :: r, h => flat_app (a := [c]) (flat_one (h c (by simp)).1 (h c (by simp)).2.1 (h c (by simp)).2.2) (flat_all fun x hx => h x (by simp [hx]))
theorem plain_braces : ∀ x : Fin 256, plainB (UInt8.ofNat x.val) = true → UInt8.ofNat x.val ≠ 125 := by decide +kernel
theorem plain_brace {c : UInt8} (h : plainB c = true) : c ≠ 125 := by
  have := plain_braces ⟨c.toNat, c.toNat_lt⟩
  simp only [UInt8.ofNat_toNat] at this
  exact this h
theorem octs_flats : ∀ x : Fin 256, (48 + UInt8.ofNat x.val / 8 % 8 ≠ 92 ∧ 48 + UInt8.ofNat x.val / 8 % 8 ≠ 123 ∧ 48 + UInt8.ofNat x.val / 8 % 8 ≠ 125) ∧ (48 + UInt8.ofNat x.val % 8 ≠ 92 ∧ 48 + UInt8.ofNat x.val % 8 ≠ 123 ∧ 48 + UInt8.ofNat x.val % 8 ≠ 125) := by decide +kernel
theorem oct_flat (c : UInt8) : Flat (octB c) := by
  have := octs_flats ⟨c.toNat, c.toNat_lt⟩
  simp only [UInt8.ofNat_toNat] at this
  obtain ⟨⟨a1, a2, a3⟩, ⟨b1, b2, b3⟩⟩ := this
  exact flat_app (a := [92, 48 + c / 64]) (flat_two _) (flat_app (a := [48 + c / 8 % 8]) (flat_one a1 a2 a3) (flat_one b1 b2 b3))
theorem text_flat (b1 : Bool) : ∀ (u : List UInt8) (b2 : Bool), Flat (textB b1 b2 u)
  | [], _ => flat_nil
  | c :: u, b2 => by
    rw [textB]
    refine flat_app ?_ (text_flat b1 u false)
    unfold escB
    split
    · rename_i h
      simp only [Bool.and_eq_true] at h
      exact flat_one (plain_fact h.1.1).2.1 (plain_fact h.1.1).2.2.2.2.1 (plain_brace h.1.1)
    · exact oct_flat c
theorem bal_brace {t : List UInt8} (h : Flat t) : Bal (123 :: (t ++ [125])) := fun s f i d r hd h0 => by
  obtain ⟨h1, h2⟩ := drop_cons' h0
  rw [braced_some h1, if_neg (by decide), if_pos rfl, if_neg (by omega)]
  have h2' : s.drop (i + 1) = t ++ (125 :: r) := by rw [h2]; simp
  rw [h s f (i + 1) (d + 1) _ h2']
  have h3 := (drop_cons' (drop_app h2')).1
  rw [braced_some h3, if_neg (by decide), if_neg (by decide), if_pos rfl, if_pos (by omega)]
  rw [show d + 1 + 1 - 1 = d + 1 by omega]
  congr 1
  simp; omega
theorem behind_of {s r : List UInt8} {j : Nat} (h : s.drop j = r) (hr : r = [] ∨ ∃ r', r = 32 :: r') : behind s j = .ok () := by
  rcases hr with rfl | ⟨r', rfl⟩
  · exact behind_none (List.drop_eq_nil_iff.1 h)
  · exact behind_ok (drop_cons' h).1 (by decide)
theorem brace_tok {t : List UInt8} (h : Bal t) : TkOk ⟨123 :: (t ++ [125]), 2, if t = [] then [] else [⟨false, t⟩]⟩ where
  hd := ⟨_, _, rfl, by decide, by decide⟩
  rd s i r h0 hr := by
    simp only [List.headD_cons]
    obtain ⟨h1, h2⟩ := drop_cons' h0
    have h2' : s.drop (i + 1) = t ++ (125 :: r) := by rw [h2]; simp
    have hb : braced s i i 0 = .ok (i + 1 + t.length + 1) := by
      rw [braced_some h1, if_neg (by decide), if_pos rfl, if_neg (by omega), h s i (i + 1) 0 _ (by omega) h2', braced_some (drop_cons' (drop_app h2')).1, if_neg (by decide), if_neg (by decide), if_pos rfl, if_neg (by omega)]
    rw [word_b_ok hb (behind_of (drop_cons' (drop_app h2')).2 hr)]
    have hs : sub s (i + 1) (i + 1 + t.length + 1 - 1) = t := by
      unfold sub
      rw [List.drop_take, h2', Nat.add_sub_cancel, Nat.add_sub_cancel_left, List.take_left]
    rw [hs]
    have e : (i + 1 + t.length + 1 = i + 2) ↔ t = [] := by rw [← List.length_eq_zero_iff]; omega
    have e2 : i + 1 + t.length + 1 = i + (123 :: (t ++ [125])).length := by simp; omega
    by_cases ht : t = []
    · rw [if_pos (e.2 ht), if_pos ht, e2]
    · rw [if_neg (fun x => ht (e.1 x)), if_neg ht, e2]
theorem bare_run2 {t : List UInt8} {r : List UInt8} (hr : r = [] ∨ ∃ r', r = 32 :: r') : ∀ (name acc : List UInt8) (i : Nat), (∀ c ∈ name, selfB c = true) → t.drop i = name ++ r → partsGo stopB t none i [] acc = .ok (flush [] (acc ++ name), i + name.length) := by
  intro name
  induction name with
  | nil =>
    intro acc i _ h
    rcases hr with rfl | ⟨r', rfl⟩
    · rw [parts_none (List.getElem?_eq_none (List.drop_eq_nil_iff.1 h))]; simp
    · rw [parts_some (drop_cons' h).1, if_pos (by decide)]; simp
  | cons c name ih =>
    intro acc i hn h
    obtain ⟨hc, hd⟩ := drop_cons' h
    have hs := hn c (by simp)
    simp only [selfB, Bool.and_eq_true, Bool.not_eq_true', bne_iff_ne, ne_eq] at hs
    rw [parts_some hc, if_neg (by rw [hs.1.1.1]; decide), if_neg hs.1.1.2, if_neg hs.1.2, if_neg hs.2]
    rw [ih (acc ++ [c]) (i + 1) (fun x hx => hn x (by simp [hx])) hd]
    simp; omega
theorem bare_tok {c : UInt8} {n : List UInt8} (hn : ∀ x ∈ c :: n, selfB x = true) (h1 : c ≠ 123) (h2 : c ≠ 34) (h3 : c ≠ 35) : TkOk ⟨c :: n, 0, [⟨false, c :: n⟩]⟩ where
  hd := ⟨_, _, rfl, by have := hn c (by simp); simp only [selfB, Bool.and_eq_true, Bool.not_eq_true'] at this; exact this.1.1.1, h3⟩
  rd s i r h0 hr := by
    simp only [List.headD_cons]
    refine word_bare_ok h1 h2 ?_
    rw [bare_run2 hr (c :: n) [] i hn h0]
    rfl
theorem quote_tok (u : List UInt8) : TkOk ⟨34 :: (textB false false u ++ [34]), 1, flush [] u⟩ where
  hd := ⟨_, _, rfl, by decide, by decide⟩
  rd s i r h0 hr := by
    simp only [List.headD_cons]
    obtain ⟨h1, h2⟩ := drop_cons' h0
    have h2' : s.drop (i + 1) = textB false false u ++ (34 :: r) := by rw [h2]; simp
    obtain ⟨j, h3, h4, h5⟩ := text_step' (f := some i) (l := []) stops_quote u false (i + 1) [] h2'
    have h34 := drop_cons' h3
    have hj : j + 1 = i + (34 :: (textB false false u ++ [34])).length := by
      have l1 := congrArg List.length h3
      have l2 := congrArg List.length h2'
      have := lt_of_some h34.1
      simp at l1 l2 ⊢
      omega
    have hp : partsGo quoteB s (some i) (i + 1) [] [] = .ok (flush [] u, j) := by
      rw [h5, parts_some h34.1, if_pos (by decide)]; rfl
    rw [word_q_ok hp (by have := lt_of_some h34.1; omega) (behind_of h34.2 hr), hj]
/-- Words with a blank ahead of each. -/
def toksS : List Tk → List UInt8
  | [] => []
  | w :: r => 32 :: (w.t ++ toksS r)
def toksW : Nat → List Tk → List Word
  | _, [] => []
  | i, w :: r => ⟨i + 1, w.k, w.ps⟩ :: toksW (i + 1 + w.t.length) r
theorem toksS_end (l : List Tk) : toksS l = [] ∨ ∃ r', toksS l = 32 :: r' := by
  cases l with
  | nil => exact .inl rfl
  | cons w r => exact .inr ⟨_, rfl⟩
theorem toksS_app (a b : List Tk) : toksS (a ++ b) = toksS a ++ toksS b := by
  induction a with
  | nil => rfl
  | cons w r ih => simp only [List.cons_append, toksS, ih, List.append_assoc]
theorem headD_of {t : List UInt8} {c : UInt8} {t' : List UInt8} (h : t = c :: t') : t.headD 0 = c := by rw [h]; rfl
theorem command_toks {s : List UInt8} : ∀ (l : List Tk) (i : Nat) (ws : List Word), (∀ w ∈ l, TkOk w) → s.drop i = toksS l → i ≤ s.length → command s i ws = .ok (ws ++ toksW i l, s.length) := by
  intro l
  induction l with
  | nil =>
    intro i ws _ h hi
    have := List.drop_eq_nil_iff.1 h
    rw [command_none (List.getElem?_eq_none this), toksW, List.append_nil]
    congr 2; omega
  | cons w r ih =>
    intro i ws hw h hi
    obtain ⟨h1, h2⟩ := drop_cons' h
    obtain ⟨c, t', e1, e2, e3⟩ := (hw w (by simp)).hd
    have hr := (hw w (by simp)).rd s (i + 1) _ h2 (toksS_end r)
    rw [headD_of e1] at hr
    have h3 : s[i + 1]? = some c := (drop_cons' (show s.drop (i + 1) = c :: (t' ++ toksS r) by rw [h2, e1]; rfl)).1
    have e4 : blankB c = false ∧ endB c = false := by simpa [stopB] using e2
    rw [command_some h1, if_neg (by decide), if_pos (by decide), command_some h3, if_neg (by rw [e4.2]; decide), if_neg (by rw [e4.1]; decide), hr]
    have hl : 0 < w.t.length := by rw [e1]; simp
    simp only [if_pos (show i + 1 < i + 1 + w.t.length by omega)]
    have h4 := drop_app h2
    have hle : i + 1 + w.t.length ≤ s.length := by
      have l2 := congrArg List.length h2
      have := lt_of_some h3
      simp at l2
      omega
    rw [ih _ _ (fun x hx => hw x (by simp [hx])) h4 hle, toksW]
    simp
theorem parse_toks {w : Tk} {r : List Tk} (hw : ∀ x ∈ w :: r, TkOk x) (hlen : (toksS (w :: r)).length ≤ 16777216) : parse (toksS (w :: r)) = .ok [⟨1, toksW 0 (w :: r)⟩] := by
  obtain ⟨c, t', e1, e2, e3⟩ := (hw w (by simp)).hd
  have hc := command_toks (s := toksS (w :: r)) (w :: r) 0 [] hw rfl (Nat.zero_le _)
  have h0 : (toksS (w :: r))[0]? = some 32 := rfl
  have h1 : (toksS (w :: r))[1]? = some c := by
    have e : toksS (w :: r) = 32 :: c :: (t' ++ toksS r) := by rw [toksS, e1]; rfl
    rw [e]; rfl
  rw [command_some h0, if_neg (by decide), if_pos (by decide)] at hc
  have hl := lt_of_some h1
  unfold parse
  rw [if_neg (by omega), parse_some h0, if_pos (by decide), parse_some h1, if_neg (by rw [e2]; decide), if_neg e3, hc]
  simp only [if_pos hl]
  rw [parse_none (List.getElem?_eq_none (Nat.le_refl _))]
  rfl
/-- A text of a first word and others. -/
theorem parse_first {w : Tk} {r : List Tk} (hw : ∀ x ∈ w :: r, TkOk x) (hlen : (w.t ++ toksS r).length ≤ 16777216) : parse (w.t ++ toksS r) = .ok [⟨0, ⟨0, w.k, w.ps⟩ :: toksW w.t.length r⟩] := by
  obtain ⟨c, t', e1, e2, e3⟩ := (hw w (by simp)).hd
  have h0 : (w.t ++ toksS r)[0]? = some c := by rw [e1]; rfl
  have hr := (hw w (by simp)).rd (w.t ++ toksS r) 0 _ List.drop_zero (toksS_end r)
  rw [headD_of e1] at hr
  have hl : 0 < w.t.length := by rw [e1]; simp
  have e4 : blankB c = false ∧ endB c = false := by simpa [stopB] using e2
  have hc : command (w.t ++ toksS r) 0 [] = .ok (⟨0, w.k, w.ps⟩ :: toksW w.t.length r, (w.t ++ toksS r).length) := by
    rw [command_some h0, if_neg (by rw [e4.2]; decide), if_neg (by rw [e4.1]; decide), hr]
    simp only [Nat.zero_add, if_pos hl]
    rw [command_toks r w.t.length _ (fun x hx => hw x (by simp [hx])) (by rw [List.drop_left]) (by simp)]
    rfl
  unfold parse
  rw [if_neg (by omega), parse_some h0, if_neg (by rw [e2]; decide), if_neg e3, hc]
  simp only [if_pos (show 0 < (w.t ++ toksS r).length by simp; omega)]
  rw [parse_none (List.getElem?_eq_none (Nat.le_refl _))]
  rfl
/-- An arm as it is asked: its kind, whether there is a body, its pattern. -/
structure Ar where
  k : Nat
  b : Bool
  p : Option (List UInt8)
def sendL : List UInt8 := [115, 101, 110, 100, 32, 97, 10, 101, 120, 105, 116]
def patT (p : Option (List UInt8)) : Tk := match p with
  | none => ⟨[120], 0, [⟨false, [120]⟩]⟩
  | some u => ⟨34 :: (textB false false u ++ [34]), 1, flush [] u⟩
def exactT : Tk := ⟨[45, 101, 120, 97, 99, 116], 0, [⟨false, [45, 101, 120, 97, 99, 116]⟩]⟩
def globT : Tk := ⟨[45, 103, 108, 111, 98], 0, [⟨false, [45, 103, 108, 111, 98]⟩]⟩
def timeT : Tk := ⟨[116, 105, 109, 101, 111, 117, 116], 0, [⟨false, [116, 105, 109, 101, 111, 117, 116]⟩]⟩
def eofT : Tk := ⟨[101, 111, 102], 0, [⟨false, [101, 111, 102]⟩]⟩
def sendT : Tk := ⟨123 :: (sendL ++ [125]), 2, [⟨false, sendL⟩]⟩
def headT (a : Ar) : List Tk := if a.k = 0 then [exactT, patT a.p] else if a.k = 1 then [globT, patT a.p] else if a.k = 2 then [timeT] else [eofT]
def tailT (a : Ar) : List Tk := if a.b then [sendT] else []
def arT (a : Ar) : List Tk := headT a ++ tailT a
def arsT (l : List Ar) : List Tk := (l.map arT).flatten
/-- An arm is what was asked. -/
def want (a : Ar) : List UInt8 := if a.k < 2 then (match a.p with | none => [120] | some u => u) else []
def ArmIs (a : Ar) (m : Arm) : Prop := m.kind = a.k ∧ (if a.b then ∃ o1 o2, m.body = [o1, o2] ∧ o2.kind = 7 else m.body = []) ∧ openT m.pat = want a
theorem openT_flush (i k : Nat) (u : List UInt8) : openT ⟨i, k, flush [] u⟩ = u := by
  unfold openT flush
  split
  · rename_i h; rw [h]; rfl
  · simp
theorem patT_ok (p : Option (List UInt8)) : TkOk (patT p) := by
  cases p with
  | none => exact bare_tok (by decide) (by decide) (by decide) (by decide)
  | some u => exact quote_tok u
theorem sendL_flat : Flat sendL := flat_all (by decide)
theorem headT_ok (a : Ar) : ∀ w ∈ headT a, TkOk w := by
  intro w hw
  unfold headT at hw
  split at hw
  · simp at hw; rcases hw with rfl | rfl
    · exact bare_tok (by decide) (by decide) (by decide) (by decide)
    · exact patT_ok _
  · split at hw
    · simp at hw; rcases hw with rfl | rfl
      · exact bare_tok (by decide) (by decide) (by decide) (by decide)
      · exact patT_ok _
    · split at hw
      · simp at hw; subst hw; exact bare_tok (by decide) (by decide) (by decide) (by decide)
      · simp at hw; subst hw; exact bare_tok (by decide) (by decide) (by decide) (by decide)
theorem arsT_ok (l : List Ar) : ∀ w ∈ arsT l, TkOk w := by
  intro w hw
  unfold arsT at hw
  simp only [List.mem_flatten, List.mem_map] at hw
  obtain ⟨x, ⟨a, -, rfl⟩, hw⟩ := hw
  unfold arT at hw
  rcases List.mem_append.1 hw with hw | hw
  · exact headT_ok a w hw
  · unfold tailT at hw
    split at hw
    · simp at hw; subst hw; exact brace_tok sendL_flat.bal
    · simp at hw
theorem patT_flat (p : Option (List UInt8)) : Flat (patT p).t := by
  cases p with
  | none => exact flat_all (by decide)
  | some u => exact flat_app (a := [34]) (flat_all (by decide)) (flat_app (text_flat _ _ _) (flat_all (by decide)))
theorem toksS_bal : ∀ {l : List Tk}, (∀ w ∈ l, Bal w.t) → Bal (toksS l)
  | [], _ => flat_nil.bal
  | w :: r, h => bal_app (a := [32]) (flat_all (by decide)).bal (bal_app (h w (by simp)) (toksS_bal fun x hx => h x (by simp [hx])))
theorem arsT_bal (l : List Ar) : Bal (toksS (arsT l)) := by
  refine toksS_bal ?_
  intro w hw
  unfold arsT at hw
  simp only [List.mem_flatten, List.mem_map] at hw
  obtain ⟨x, ⟨a, -, rfl⟩, hw⟩ := hw
  unfold arT at hw
  rcases List.mem_append.1 hw with hw | hw
  · unfold headT at hw
    split at hw
    · simp at hw; rcases hw with rfl | rfl
      · exact (flat_all (by decide)).bal
      · exact (patT_flat _).bal
    · split at hw
      · simp at hw; rcases hw with rfl | rfl
        · exact (flat_all (by decide)).bal
        · exact (patT_flat _).bal
      · split at hw
        · simp at hw; subst hw; exact (flat_all (by decide)).bal
        · simp at hw; subst hw; exact (flat_all (by decide)).bal
  · unfold tailT at hw
    split at hw
    · simp at hw; subst hw; exact bal_brace sendL_flat
    · simp at hw
theorem toksW_len : ∀ (l : List Tk) (i : Nat), (toksW i l).length = l.length
  | [], _ => rfl
  | w :: r, i => by rw [toksW, List.length_cons, toksW_len r, List.length_cons]
theorem arsT_cons (a : Ar) (l : List Ar) : arsT (a :: l) = headT a ++ (tailT a ++ arsT l) := by
  unfold arsT arT
  simp
theorem bodyA_next (rec : List UInt8 → Nat → Except Bad (List Op)) (i : Nat) (l : List Ar) : bodyA rec (toksW i (arsT l)) = .ok ([], toksW i (arsT l)) := by
  cases l with
  | nil => rfl
  | cons a l =>
    rw [arsT_cons]
    unfold headT
    split
    · rfl
    · split
      · rfl
      · split
        · rfl
        · rfl
def BodyIs (b : Bool) (body : List Op) : Prop := if b then ∃ o1 o2, body = [o1, o2] ∧ o2.kind = 7 else body = []
theorem bodyA_tail {rec : List UInt8 → Nat → Except Bad (List Op)} (hrec : ∀ b, ∃ o1 o2, rec sendL b = .ok [o1, o2] ∧ o2.kind = 7) (a : Ar) (l : List Ar) (j : Nat) :
    ∃ body j', bodyA rec (toksW j (tailT a ++ arsT l)) = .ok (body, toksW j' (arsT l)) ∧ BodyIs a.b body := by
  unfold tailT BodyIs
  split
  · rename_i h
    obtain ⟨o1, o2, h1, h2⟩ := hrec (j + 1 + 1)
    refine ⟨[o1, o2], j + 1 + sendT.t.length, ?_, o1, o2, rfl, h2⟩
    rw [List.cons_append, List.nil_append, toksW]
    unfold bodyA
    simp only
    rw [if_pos (show sendT.k = 2 from rfl)]
    have e : openT ⟨j + 1, sendT.k, sendT.ps⟩ = sendL := by rfl
    rw [e, h1]
  · refine ⟨[], j, ?_, rfl⟩
    rw [List.nil_append, bodyA_next]
theorem flag_exact (i : Nat) : flagged ⟨i, exactT.k, exactT.ps⟩ = some 0 := by rfl
theorem flag_glob (i : Nat) : flagged ⟨i, globT.k, globT.ps⟩ = some 1 := by rfl
theorem flag_time (i : Nat) : flagged ⟨i, timeT.k, timeT.ps⟩ = some 2 := by rfl
theorem flag_eof (i : Nat) : flagged ⟨i, eofT.k, eofT.ps⟩ = some 3 := by rfl
theorem headA_flag {w : Word} {l : List Word} {k : Nat} (h : flagged w = some k) : headA w l = if k < 2 then (match l with | [] => .error (w.at_, 2) | p :: r => .ok (k, p, r)) else .ok (k, ⟨0, 0, []⟩, l) := by
  unfold headA; rw [h]
  simp only
  by_cases hk : k < 2
  · rw [if_pos hk, if_pos hk]; cases l <;> rfl
  · rw [if_neg hk, if_neg hk]
theorem openT_pat (i : Nat) (p : Option (List UInt8)) : openT ⟨i, (patT p).k, (patT p).ps⟩ = (match p with | none => [120] | some u => u) := by
  cases p with
  | none => rfl
  | some u => exact openT_flush _ _ _
theorem headA_arm (a : Ar) (hk : a.k ≤ 3) (r : List Tk) (i : Nat) : ∃ first l p j, toksW i (headT a ++ r) = first :: l ∧ headA first l = .ok (a.k, p, toksW j r) ∧ openT p = want a := by
  unfold headT want
  split
  · rename_i h
    refine ⟨_, _, ⟨i + 1 + exactT.t.length + 1, (patT a.p).k, (patT a.p).ps⟩, i + 1 + exactT.t.length + 1 + (patT a.p).t.length, rfl, ?_, ?_⟩
    · rw [headA_flag (flag_exact _), if_pos (by decide)]
      simp only [h]; rfl
    · rw [if_pos (by omega)]; exact openT_pat _ _
  · split
    · rename_i h
      refine ⟨_, _, ⟨i + 1 + globT.t.length + 1, (patT a.p).k, (patT a.p).ps⟩, i + 1 + globT.t.length + 1 + (patT a.p).t.length, rfl, ?_, ?_⟩
      · rw [headA_flag (flag_glob _), if_pos (by decide)]
        simp only [h]; rfl
      · rw [if_pos (by omega)]; exact openT_pat _ _
    · split
      · rename_i h
        refine ⟨_, _, ⟨0, 0, []⟩, i + 1 + timeT.t.length, rfl, ?_, ?_⟩
        · rw [headA_flag (flag_time _), if_neg (by decide)]
          simp only [h]; rfl
        · rw [if_neg (by omega)]; rfl
      · have h : a.k = 3 := by omega
        refine ⟨_, _, ⟨0, 0, []⟩, i + 1 + eofT.t.length, rfl, ?_, ?_⟩
        · rw [headA_flag (flag_eof _), if_neg (by decide)]
          simp only [h]; rfl
        · rw [if_neg (by omega)]; rfl
theorem arms_go {rec : List UInt8 → Nat → Except Bad (List Op)} (hrec : ∀ b, ∃ o1 o2, rec sendL b = .ok [o1, o2] ∧ o2.kind = 7) : ∀ (l : List Ar) (i n : Nat) (acc : List Arm), (∀ a ∈ l, a.k ≤ 3) → (toksW i (arsT l)).length ≤ n → acc.length + l.length ≤ 64 →
    ∃ ms : List Arm, armsGo rec n (toksW i (arsT l)) acc = .ok (acc ++ ms) ∧ ms.length = l.length ∧ ∀ (j : Nat) (a : Ar), l[j]? = some a → ∃ m, ms[j]? = some m ∧ ArmIs a m := by
  intro l
  induction l with
  | nil =>
    intro i n acc _ _ _
    refine ⟨[], ?_, rfl, fun j a h => by simp at h⟩
    rw [List.append_nil]
    cases n <;> rfl
  | cons a l ih =>
    intro i n acc hk hn hl
    obtain ⟨first, l1, p, j, e1, e2, e3⟩ := headA_arm a (hk a (by simp)) (tailT a ++ arsT l) i
    obtain ⟨body, j', e4, e5⟩ := bodyA_tail hrec a l j
    rw [arsT_cons, e1] at hn ⊢
    have hlen : (toksW j' (arsT l)).length ≤ l1.length := by
      have := congrArg List.length e1
      rw [toksW_len] at this ⊢
      have hh : 0 < (headT a).length := by
        unfold headT
        split
        · simp
        · split
          · simp
          · split <;> simp
      simp at this
      omega
    obtain ⟨n', rfl⟩ : ∃ n', n = n' + 1 := ⟨n - 1, by simp at hn; omega⟩
    simp at hn hl
    obtain ⟨ms, g1, g2, g3⟩ := ih j' n' (acc ++ [.mk a.k p body]) (fun x hx => hk x (by simp [hx])) (by omega) (by simp; omega)
    refine ⟨.mk a.k p body :: ms, ?_, by simp [g2], ?_⟩
    · rw [armsGo, if_neg (by omega), e2]
      simp only
      rw [e4]
      simp only
      rw [g1]
      simp
    · intro q x hx
      cases q with
      | zero =>
        simp at hx
        subst hx
        exact ⟨_, rfl, rfl, e5, e3⟩
      | succ q => exact g3 q x (by simpa using hx)
def expT : Tk := ⟨[101, 120, 112, 101, 99, 116], 0, [⟨false, [101, 120, 112, 101, 99, 116]⟩]⟩
/-- The whole text. -/
def expS (T : List UInt8) : List UInt8 := [101, 120, 112, 101, 99, 116, 32, 123] ++ (T ++ [125])
theorem expS_eq (T : List UInt8) : expS T = expT.t ++ toksS [⟨123 :: (T ++ [125]), 2, if T = [] then [] else [⟨false, T⟩]⟩] := by
  unfold expS expT toksS toksS
  simp
theorem send_plan : script 12 sendL 0 true = .ok [.mk 2 0 [⟨5, 0, [⟨false, [97]⟩]⟩] [], .mk 7 7 [] []] := by kernel_rfl
theorem exp_none : planOf (expS []) = .error (0, 2) := by kernel_rfl
theorem toksW_shift (b : Nat) : ∀ (l : List Tk) (i : Nat), (toksW i l).map (shiftW b) = toksW (i + b) l
  | [], _ => rfl
  | w :: r, i => by
    rw [toksW, List.map_cons, toksW_shift b r, toksW]
    unfold shiftW
    rw [show i + 1 + b = i + b + 1 by omega, show i + 1 + w.t.length + b = i + b + 1 + w.t.length by omega]
theorem exp_arms {l : List Ar} (h0 : l ≠ []) (hk : ∀ a ∈ l, a.k ≤ 3) (hl : l.length ≤ 64) (hT : (toksS (arsT l)).length ≤ 100000) :
    ∃ ms : List Arm, planOf (expS (toksS (arsT l))) = .ok [.mk 3 0 [] ms] ∧ ms.length = l.length ∧ ∀ (j : Nat) (a : Ar), l[j]? = some a → ∃ m, ms[j]? = some m ∧ ArmIs a m := by
  obtain ⟨w, r, e, e3⟩ : ∃ w r, arsT l = w :: r ∧ 3 ≤ w.t.length := by
    cases l with
    | nil => exact absurd rfl h0
    | cons a l =>
      rw [arsT_cons]
      unfold headT
      split
      · exact ⟨_, _, rfl, by decide⟩
      · split
        · exact ⟨_, _, rfl, by decide⟩
        · split <;> exact ⟨_, _, rfl, by decide⟩
  have hT0 : toksS (arsT l) ≠ [] := by rw [e, toksS]; simp
  have hlen : (expS (toksS (arsT l))).length = (toksS (arsT l)).length + 9 := by unfold expS; simp
  have hp : parse (expS (toksS (arsT l))) = .ok [⟨0, [⟨0, 0, [⟨false, [101, 120, 112, 101, 99, 116]⟩]⟩, ⟨7, 2, [⟨false, toksS (arsT l)⟩]⟩]⟩] := by
    rw [expS_eq, parse_first (fun x hx => ?_) (by rw [← expS_eq]; omega), if_neg hT0]
    · rfl
    · simp at hx
      rcases hx with rfl | rfl
      · exact bare_tok (by decide) (by decide) (by decide) (by decide)
      · exact brace_tok (arsT_bal l)
  have hq : parse (toksS (arsT l)) = .ok [⟨1, toksW 0 (arsT l)⟩] := by
    have := arsT_ok l
    rw [e] at this hT ⊢
    exact parse_toks this (by omega)
  have hrec : ∀ b, ∃ o1 o2, script (expS (toksS (arsT l))).length sendL b true = .ok [o1, o2] ∧ o2.kind = 7 := by
    intro b
    have e1 : script (expS (toksS (arsT l))).length sendL 0 true = .ok [.mk 2 0 [⟨5, 0, [⟨false, [97]⟩]⟩] [], .mk 7 7 [] []] := by
      rw [script_fuel _ 12 sendL 0 true (by
        have h3 : sendL.length = 11 := rfl
        have h4 : (toksS (arsT l)).length = w.t.length + (toksS r).length + 1 := by rw [e, toksS]; simp
        omega) (by decide)]
      exact send_plan
    have := script_sh b (expS (toksS (arsT l))).length sendL 0 true
    rw [e1, Nat.zero_add] at this
    rw [this]
    exact ⟨_, _, rfl, rfl⟩
  obtain ⟨ms, g1, g2, g3⟩ := arms_go (rec := fun t b => script (expS (toksS (arsT l))).length t b true) hrec l 8 (toksW 8 (arsT l)).length [] hk (Nat.le_refl _) (by simpa using hl)
  refine ⟨ms, ?_, g2, g3⟩
  rw [List.nil_append] at g1
  have hpE : parseAt (toksS (arsT l)) (7 + 1) = .ok [shiftC 8 ⟨1, toksW 0 (arsT l)⟩] := by
    unfold parseAt
    rw [hq]; rfl
  have hA : argsA [⟨7, 2, [⟨false, toksS (arsT l)⟩]⟩] = .ok (toksW 8 (arsT l)) := by
    unfold argsA
    simp only
    rw [if_pos trivial]
    have : openT ⟨7, 2, [⟨false, toksS (arsT l)⟩]⟩ = toksS (arsT l) := by simp [openT]
    rw [this, hpE]
    have h8 : (toksW 0 (arsT l)).map (shiftW 8) = toksW 8 (arsT l) := toksW_shift 8 _ 0
    simp only [List.map_cons, List.map_nil, List.flatten_cons, List.flatten_nil, List.append_nil, shiftC, h8]
  have hform : formOf [101, 120, 112, 101, 99, 116] = some (3, 1, 1073741824) := by decide
  unfold planOf
  simp only [script]
  rw [parseAt_zero, hp]
  simp only
  have hms : ms ≠ [] := by
    intro h
    rw [h] at g2
    exact h0 (List.length_eq_zero_iff.1 g2.symm)
  have hO : cmdOp (fun t b => script (expS (toksS (arsT l))).length t b true) false ⟨0, [⟨0, 0, [⟨false, [101, 120, 112, 101, 99, 116]⟩]⟩, ⟨7, 2, [⟨false, toksS (arsT l)⟩]⟩]⟩ = .ok (.mk 3 0 [] ms) := by
    unfold cmdOp
    simp only [oneT]
    rw [if_neg (by simp)]
    simp only
    rw [hform]
    simp only [List.length_cons, List.length_nil]
    rw [if_neg (by decide), if_neg (by decide), if_neg (by decide), hA]
    simp only
    rw [g1]
    cases ms with
    | nil => exact absurd rfl hms
    | cons m ms => rfl
  rw [cmdsGo, hO]
  rfl
/-- The arms that are asked by kinds and patterns. -/
def arOf (k : UInt8) (s : Option (List UInt8)) : Ar := ⟨k.toNat % 4, decide (4 ≤ k.toNat % 8), s.map (·.take 20)⟩
def arsL : List UInt8 → List (List UInt8) → List Ar
  | [], _ => []
  | k :: ks, ss => arOf k ss.head? :: arsL ks ss.tail
theorem arsL_step {ks : List UInt8} {ss : List (List UInt8)} {j : Nat} {k : UInt8} (h : ks[j]? = some k) : arsL (ks.drop j) (ss.drop j) = arOf k ss[j]? :: arsL (ks.drop (j + 1)) (ss.drop (j + 1)) := by
  obtain ⟨hl, he⟩ := List.getElem?_eq_some_iff.1 h
  rw [List.drop_eq_getElem_cons hl, he, arsL, List.head?_drop, List.tail_drop]
theorem arsL_len : ∀ (ks : List UInt8) (ss : List (List UInt8)), (arsL ks ss).length = ks.length
  | [], _ => rfl
  | k :: ks, ss => by rw [arsL, List.length_cons, arsL_len ks, List.length_cons]
theorem arsL_get : ∀ (ks : List UInt8) (ss : List (List UInt8)) (j : Nat) (k : UInt8), ks[j]? = some k → (arsL ks ss)[j]? = some (arOf k ss[j]?)
  | k0 :: ks, ss, 0, k, h => by simp at h; subst h; rw [arsL]; simp [List.head?_eq_getElem?]
  | k0 :: ks, ss, j + 1, k, h => by
    rw [arsL, List.getElem?_cons_succ, arsL_get ks ss.tail j k (by simpa using h), List.getElem?_tail]
theorem arsL_kinds (ks : List UInt8) (ss : List (List UInt8)) : ∀ a ∈ arsL ks ss, a.k ≤ 3 := by
  intro a ha
  obtain ⟨j, hj, rfl⟩ := List.mem_iff_getElem.1 ha
  rw [arsL_len] at hj
  have := arsL_get ks ss j _ (List.getElem?_eq_getElem hj)
  rw [List.getElem?_eq_getElem (by rw [arsL_len]; exact hj)] at this
  rw [Option.some.inj this]
  show _ % 4 ≤ 3
  omega
/-- What is written ahead of an arm's body. -/
def headS (k : Nat) (P : List UInt8) : List UInt8 := if k = 0 then [45, 101, 120, 97, 99, 116, 32] ++ P else if k = 1 then [45, 103, 108, 111, 98, 32] ++ P else if k = 2 then [116, 105, 109, 101, 111, 117, 116] else [101, 111, 102]
def tailS (b : Bool) : List UInt8 := if b then [32, 123, 115, 101, 110, 100, 32, 97, 10, 101, 120, 105, 116, 125] else []
theorem toksS_arm (a : Ar) (l : List Ar) : toksS (arsT (a :: l)) = (([32] ++ headS a.k (patT a.p).t) ++ tailS a.b) ++ toksS (arsT l) := by
  rw [arsT_cons, toksS_app, toksS_app, ← List.append_assoc]
  congr 1
  have h1 : toksS (headT a) = [32] ++ headS a.k (patT a.p).t := by
    unfold headT headS
    split
    · simp [toksS, exactT]
    · split
      · simp [toksS, globT]
      · split <;> rfl
  have h2 : toksS (tailT a) = tailS a.b := by
    unfold tailT tailS
    split <;> rfl
  rw [h1, h2]
theorem escB_len (a b : Bool) (c : UInt8) : (escB a b c).length ≤ 4 := by
  unfold escB
  split
  · simp
  · exact Nat.le_refl 4
theorem textB_len (a : Bool) : ∀ (u : List UInt8) (b : Bool), (textB a b u).length ≤ 4 * u.length
  | [], _ => Nat.le_refl 0
  | c :: u, b => by
    rw [textB, List.length_append, List.length_cons]
    have := escB_len a b c
    have := textB_len a u false
    omega
theorem patT_len {p : Option (List UInt8)} (h : ∀ u, p = some u → u.length ≤ 20) : (patT p).t.length ≤ 82 := by
  cases p with
  | none => decide
  | some u =>
    have h1 := h u rfl
    have h2 := textB_len false u false
    show (34 :: (textB false false u ++ [34])).length ≤ 82
    simp; omega
theorem arm_len (k : UInt8) (s : Option (List UInt8)) : (([32] ++ headS (arOf k s).k (patT (arOf k s).p).t) ++ tailS (arOf k s).b).length ≤ 110 := by
  have h1 : (patT (arOf k s).p).t.length ≤ 82 := patT_len (fun u hu => by
    unfold arOf at hu
    simp only [Option.map_eq_some_iff] at hu
    obtain ⟨x, -, rfl⟩ := hu
    rw [List.length_take]; omega)
  have h2 : (headS (arOf k s).k (patT (arOf k s).p).t).length ≤ 90 := by
    unfold headS
    split
    · simp; omega
    · split
      · simp; omega
      · split <;> simp
  have h3 : (tailS (arOf k s).b).length ≤ 14 := by unfold tailS; split <;> simp
  simp only [List.length_append, List.length_cons, List.length_nil]
  omega
theorem arsL_text : ∀ (ks : List UInt8) (ss : List (List UInt8)), (toksS (arsT (arsL ks ss))).length ≤ 110 * ks.length
  | [], _ => Nat.le_refl 0
  | k :: ks, ss => by
    rw [arsL, toksS_arm, List.length_append, List.length_cons]
    have := arm_len k ss.head?
    have := arsL_text ks ss.tail
    omega
end Plan
end Go.Proofs.Ytakcolililbkjaa
