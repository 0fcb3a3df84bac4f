/- How words and commands lie in memory, told one by one. No condition. -/
import Derived.Test.YtakcolililbkjaaTclParse
import Derived.Test.YtakcolililbkjaaPlPlace
import Derived.Test.YtakcolililbkjaaPlRow
set_option linter.unusedVariables false
set_option linter.unusedSimpArgs false
namespace Go.Proofs.Ytakcolililbkjaa
namespace Pl
open Go.RowKit Tcl Plan
/-- What is told of a slice's block. -/
def Blk (w : World) (B : Nat → Prop) (v : Value) (n : Nat) : Prop := ∀ q, 0 < n → v.ownBlock = some q → B q ∧ q < w.heap.size
theorem Blk.chg {S : List Nat} {w w' : World} {B : Nat → Prop} {v : Value} {n : Nat} (h : Blk w B v n) (hc : Chg S w w') : Blk w' B v n := fun q h0 hq => ⟨(h q h0 hq).1, Nat.lt_of_lt_of_le (h q h0 hq).2 hc.size⟩
theorem Blk.imp {w : World} {B B' : Nat → Prop} {v : Value} {n : Nat} (h : Blk w B v n) (hi : ∀ q, B q → q < w.heap.size → B' q) : Blk w B' v n := fun q h0 hq => ⟨hi q (h q h0 hq).1 (h q h0 hq).2, (h q h0 hq).2⟩
theorem PartsAt.chgB {S : List Nat} {w w' : World} {B : Nat → Prop} {v : Value} {l : List Part} (h : PartsAt w v l) (hb : Blk w B v l.length) (hc : Chg S w w') (hS : ∀ q, B q → q < w.heap.size → q ∉ S) : PartsAt w' v l :=
  Sl.chg h hc (fun h0 q hq => hS q (hb q (parts_pos h0) hq).1 (hb q (parts_pos h0) hq).2)
/-- A word's three cells. -/
def wordC (w : World) (B : Nat → Prop) (xs : List Value) (wd : Word) : Prop :=
  ∃ A c, xs = [.int .i64 wd.at_, .int .i64 wd.kind, .slice A wd.parts.length c] ∧ PartsAt w (.slice A wd.parts.length c) wd.parts ∧ Blk w B (.slice A wd.parts.length c) wd.parts.length
def wordsC (w : World) (B : Nat → Prop) : List Value → List Word → Prop
  | xs, [] => xs = []
  | xs, wd :: r => ∃ h t, xs = h ++ t ∧ wordC w B h wd ∧ wordsC w B t r
theorem wordC.chg {S : List Nat} {w w' : World} {B : Nat → Prop} {xs : List Value} {wd : Word} (h : wordC w B xs wd) (hc : Chg S w w') (hS : ∀ q, B q → q < w.heap.size → q ∉ S) : wordC w' B xs wd := by
  obtain ⟨A, c, h1, h2, h3⟩ := h
  exact ⟨A, c, h1, PartsAt.chgB h2 h3 hc hS, h3.chg hc⟩
theorem wordC.imp {w : World} {B B' : Nat → Prop} {xs : List Value} {wd : Word} (h : wordC w B xs wd) (hi : ∀ q, B q → q < w.heap.size → B' q) : wordC w B' xs wd := by
  obtain ⟨A, c, h1, h2, h3⟩ := h
  exact ⟨A, c, h1, h2, h3.imp hi⟩
theorem wordC.len {w : World} {B : Nat → Prop} {xs : List Value} {wd : Word} (h : wordC w B xs wd) : xs.length = 3 := by obtain ⟨A, c, rfl, -⟩ := h; rfl
theorem wordC.shift {w : World} {B : Nat → Prop} {xs : List Value} {wd : Word} (h : wordC w B xs wd) (b : Nat) : wordC w B (xs.set 0 (.int .i64 ((wd.at_ + b : Nat) : Int))) (shiftW b wd) := by
  obtain ⟨A, c, rfl, h2, h3⟩ := h
  exact ⟨A, c, rfl, h2, h3⟩
theorem wordsC.chg {S : List Nat} {w w' : World} {B : Nat → Prop} (hc : Chg S w w') (hS : ∀ q, B q → q < w.heap.size → q ∉ S) : ∀ {ws : List Word} {xs : List Value}, wordsC w B xs ws → wordsC w' B xs ws := by
  intro ws
  induction ws with
  | nil => intro xs h; exact h
  | cons wd r ih =>
    intro xs h
    obtain ⟨a, t, h1, h2, h3⟩ := h
    exact ⟨a, t, h1, h2.chg hc hS, ih h3⟩
theorem wordsC.imp {w : World} {B B' : Nat → Prop} (hi : ∀ q, B q → q < w.heap.size → B' q) : ∀ {ws : List Word} {xs : List Value}, wordsC w B xs ws → wordsC w B' xs ws := by
  intro ws
  induction ws with
  | nil => intro xs h; exact h
  | cons wd r ih =>
    intro xs h
    obtain ⟨a, t, h1, h2, h3⟩ := h
    exact ⟨a, t, h1, h2.imp hi, ih h3⟩
theorem wordsC.len {w : World} {B : Nat → Prop} : ∀ {ws : List Word} {xs : List Value}, wordsC w B xs ws → xs.length = ws.length * 3 := by
  intro ws
  induction ws with
  | nil => intro xs h; rw [show xs = [] from h]; rfl
  | cons wd r ih =>
    intro xs h
    obtain ⟨a, t, rfl, h2, h3⟩ := h
    rw [List.length_append, h2.len, ih h3, List.length_cons]; omega
theorem wordsC.append {w : World} {B : Nat → Prop} : ∀ {a b : List Word} {xs ys : List Value}, wordsC w B xs a → wordsC w B ys b → wordsC w B (xs ++ ys) (a ++ b) := by
  intro a
  induction a with
  | nil => intro b xs ys h k; rw [show xs = [] from h]; exact k
  | cons wd r ih =>
    intro b xs ys h k
    obtain ⟨p, t, rfl, h2, h3⟩ := h
    exact ⟨p, t ++ ys, by simp, h2, ih h3 k⟩
theorem wordsC.split {w : World} {B : Nat → Prop} : ∀ {a b : List Word} {xs : List Value}, wordsC w B xs (a ++ b) → ∃ ys zs, xs = ys ++ zs ∧ wordsC w B ys a ∧ wordsC w B zs b := by
  intro a
  induction a with
  | nil => intro b xs h; exact ⟨[], xs, rfl, rfl, h⟩
  | cons wd r ih =>
    intro b xs h
    obtain ⟨p, t, rfl, h2, h3⟩ := h
    obtain ⟨ys, zs, rfl, h4, h5⟩ := ih h3
    exact ⟨p ++ ys, zs, by simp, ⟨p, ys, rfl, h2, h4⟩, h5⟩
/-- The word at a place. -/
theorem wordsC.get {w : World} {B : Nat → Prop} : ∀ {ws : List Word} {xs : List Value} {k : Nat} {wd : Word}, wordsC w B xs ws → ws[k]? = some wd →
    ∃ A c, xs[k * 3]? = some (.int .i64 wd.at_) ∧ xs[k * 3 + 1]? = some (.int .i64 wd.kind) ∧ xs[k * 3 + 2]? = some (.slice A wd.parts.length c) ∧ PartsAt w (.slice A wd.parts.length c) wd.parts ∧ Blk w B (.slice A wd.parts.length c) wd.parts.length := by
  intro ws
  induction ws with
  | nil => intro xs k wd h hk; simp at hk
  | cons wd r ih =>
    intro xs k wd' h hk
    obtain ⟨p, t, rfl, h2, h3⟩ := h
    cases k with
    | zero =>
      simp at hk; subst hk
      obtain ⟨A, c, rfl, h4, h5⟩ := h2
      exact ⟨A, c, rfl, rfl, rfl, h4, h5⟩
    | succ k =>
      simp at hk
      have hl := h2.len
      obtain ⟨A, c, e1, e2, e3, h4⟩ := ih h3 hk
      refine ⟨A, c, ?_, ?_, ?_, h4⟩
      · rw [List.getElem?_append_right (by omega), ← e1]; congr 1; omega
      · rw [List.getElem?_append_right (by omega), ← e2]; congr 1; omega
      · rw [List.getElem?_append_right (by omega), ← e3]; congr 1; omega
/-- A word's place is turned. -/
theorem wordsC.turn {w : World} {B : Nat → Prop} (b : Nat) : ∀ {ws : List Word} {xs : List Value} {k : Nat} {wd : Word}, wordsC w B xs ws → ws[k]? = some wd →
    wordsC w B (xs.set (k * 3) (.int .i64 ((wd.at_ + b : Nat) : Int))) (ws.set k (shiftW b wd)) := by
  intro ws
  induction ws with
  | nil => intro xs k wd h hk; simp at hk
  | cons wd r ih =>
    intro xs k wd' h hk
    obtain ⟨p, t, rfl, h2, h3⟩ := h
    have hl := h2.len
    cases k with
    | zero =>
      simp at hk; subst hk
      refine ⟨p.set 0 (.int .i64 ((wd.at_ + b : Nat) : Int)), t, ?_, h2.shift b, h3⟩
      rw [Nat.zero_mul, List.set_append_left _ _ (by omega)]
    | succ k =>
      simp at hk
      refine ⟨p, t.set (k * 3) (.int .i64 ((wd'.at_ + b : Nat) : Int)), ?_, h2, ih h3 hk⟩
      rw [List.set_append_right _ _ (by omega), hl]
      congr 2; omega
theorem wordsC_of {w : World} {base : Nat} {row : Option Nat} : ∀ {ws : List Word} {xs : List Value}, WordsAt w base row xs ws → wordsC w (fun q => base ≤ q ∧ row ≠ some q) xs ws := by
  intro ws
  induction ws with
  | nil => intro xs h; exact List.length_eq_zero_iff.1 (by have := h.1; simpa using this)
  | cons wd r ih =>
    intro xs h
    have hl := h.1
    obtain ⟨A, c, e1, e2, e3, h4, h5⟩ := h.2 0 wd rfl
    match xs, hl, e1, e2, e3 with
    | [], hl, _, _, _ => simp at hl
    | [_], hl, _, _, _ => simp at hl; omega
    | [_, _], hl, _, _, _ => simp at hl; omega
    | a :: b :: d :: t, hl, e1, e2, e3 =>
      simp at e1 e2 e3
      subst e1 e2 e3
      refine ⟨[.int .i64 wd.at_, .int .i64 wd.kind, .slice A wd.parts.length c], t, rfl, ⟨A, c, rfl, h4, fun q h0 hq => ?_⟩, ih ⟨by simp at hl; omega, fun k wd' hk => ?_⟩⟩
      · have := h5 q (parts_pos' h0) hq
        exact ⟨⟨this.1, this.2.2⟩, this.2.1⟩
      · obtain ⟨A', c', f1, f2, f3, f4⟩ := h.2 (k + 1) wd' (by simpa using hk)
        refine ⟨A', c', ?_, ?_, ?_, f4⟩
        · rw [← f1, show (k + 1) * 3 = k * 3 + 3 by omega]; rfl
        · rw [← f2, show (k + 1) * 3 + 1 = k * 3 + 1 + 3 by omega]; rfl
        · rw [← f3, show (k + 1) * 3 + 2 = k * 3 + 2 + 3 by omega]; rfl
/-- A command's two cells. -/
def cmdC (w : World) (B : Nat → Prop) (xs : List Value) (cm : Cmd) : Prop :=
  ∃ A c ys, xs = [.int .i64 cm.at_, .slice A cm.words.length c] ∧ Sl w 3 (.slice A cm.words.length c) cm.words.length ys ∧ Blk w B (.slice A cm.words.length c) cm.words.length ∧ wordsC w B ys cm.words
def cmdsC (w : World) (B : Nat → Prop) : List Value → List Cmd → Prop
  | xs, [] => xs = []
  | xs, cm :: r => ∃ h t, xs = h ++ t ∧ cmdC w B h cm ∧ cmdsC w B t r
theorem cmdC.chg {S : List Nat} {w w' : World} {B : Nat → Prop} {xs : List Value} {cm : Cmd} (h : cmdC w B xs cm) (hc : Chg S w w') (hS : ∀ q, B q → q < w.heap.size → q ∉ S) : cmdC w' B xs cm := by
  obtain ⟨A, c, ys, h1, h2, h3, h4⟩ := h
  have hl := h2.len
  exact ⟨A, c, ys, h1, h2.chg hc (fun h0 q hq => hS q (h3 q (by omega) hq).1 (h3 q (by omega) hq).2), h3.chg hc, wordsC.chg hc hS h4⟩
theorem cmdC.imp {w : World} {B B' : Nat → Prop} {xs : List Value} {cm : Cmd} (h : cmdC w B xs cm) (hi : ∀ q, B q → q < w.heap.size → B' q) : cmdC w B' xs cm := by
  obtain ⟨A, c, ys, h1, h2, h3, h4⟩ := h
  exact ⟨A, c, ys, h1, h2, h3.imp hi, wordsC.imp hi h4⟩
theorem cmdsC.chg {S : List Nat} {w w' : World} {B : Nat → Prop} (hc : Chg S w w') (hS : ∀ q, B q → q < w.heap.size → q ∉ S) : ∀ {cs : List Cmd} {xs : List Value}, cmdsC w B xs cs → cmdsC w' B xs cs := by
  intro cs
  induction cs with
  | nil => intro xs h; exact h
  | cons wd r ih =>
    intro xs h
    obtain ⟨a, t, h1, h2, h3⟩ := h
    exact ⟨a, t, h1, h2.chg hc hS, ih h3⟩
theorem cmdsC.imp {w : World} {B B' : Nat → Prop} (hi : ∀ q, B q → q < w.heap.size → B' q) : ∀ {cs : List Cmd} {xs : List Value}, cmdsC w B xs cs → cmdsC w B' xs cs := by
  intro cs
  induction cs with
  | nil => intro xs h; exact h
  | cons wd r ih =>
    intro xs h
    obtain ⟨a, t, h1, h2, h3⟩ := h
    exact ⟨a, t, h1, h2.imp hi, ih h3⟩
theorem cmdsC.len {w : World} {B : Nat → Prop} : ∀ {cs : List Cmd} {xs : List Value}, cmdsC w B xs cs → xs.length = cs.length * 2 := by
  intro cs
  induction cs with
  | nil => intro xs h; rw [show xs = [] from h]; rfl
  | cons wd r ih =>
    intro xs h
    obtain ⟨a, t, rfl, h2, h3⟩ := h
    obtain ⟨A, c, ys, rfl, -⟩ := h2
    rw [List.length_append, ih h3, List.length_cons, List.length_cons]; simp; omega
theorem cmdsC.get {w : World} {B : Nat → Prop} : ∀ {cs : List Cmd} {xs : List Value} {k : Nat} {cm : Cmd}, cmdsC w B xs cs → cs[k]? = some cm →
    ∃ A c ys, xs[k * 2]? = some (.int .i64 cm.at_) ∧ xs[k * 2 + 1]? = some (.slice A cm.words.length c) ∧ Sl w 3 (.slice A cm.words.length c) cm.words.length ys ∧ Blk w B (.slice A cm.words.length c) cm.words.length ∧ wordsC w B ys cm.words := by
  intro cs
  induction cs with
  | nil => intro xs k cm h hk; simp at hk
  | cons c0 r ih =>
    intro xs k cm h hk
    obtain ⟨p, t, rfl, h2, h3⟩ := h
    obtain ⟨A, c, ys, rfl, h4⟩ := h2
    cases k with
    | zero => simp at hk; subst hk; exact ⟨A, c, ys, rfl, rfl, h4⟩
    | succ k =>
      simp at hk
      obtain ⟨A, c, ys, e1, e2, h5⟩ := ih h3 hk
      refine ⟨A, c, ys, ?_, ?_, h5⟩
      · rw [← e1, show (k + 1) * 2 = k * 2 + 2 by omega]; rfl
      · rw [← e2, show (k + 1) * 2 + 1 = k * 2 + 1 + 2 by omega]; rfl
end Pl
end Go.Proofs.Ytakcolililbkjaa
