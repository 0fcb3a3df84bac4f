/- PlRow, PlAt, PlCmds, PlCmd, PlPar, PlTurn, PlOps: texts of mine, joined. Conditions: as they state. -/
import Derived.Test.YtnjjbiialpmhbaaTclBr
import Derived.Test.YtnjjbiialpmhbaaPlA
import Derived.Test.YtnjjbiialpmhbaaTclParse
set_option linter.unusedVariables false
set_option linter.unusedSimpArgs false
namespace Go.Proofs.Ytnjjbiialpmhbaa
namespace Pl
open Go.RowKit Tcl
/-- Where a row that isn't empty lies. -/
theorem sl_row {w : World} {size : Nat} {A : Option Addr} {n c : Nat} {xs : List Value} (h : Sl w size (.slice A n c) n xs) (hx : 0 < xs.length) :
    ∃ b o, A = some ⟨b, o, none⟩ ∧ ∀ j u, xs[j]? = some u → w.cell? ⟨b, o + j, none⟩ = some u := by
  obtain ⟨A0, c0, e0, h0, h1, h2, h3, h4⟩ := h
  obtain ⟨rfl, rfl⟩ : A0 = A ∧ c0 = c := by simp at e0; exact ⟨e0.1.symm, e0.2.symm⟩
  obtain ⟨ad, rfl, hr⟩ := h4 hx
  have hspot : ad.spot = none := by
    have := hr 0 _ (List.getElem?_eq_getElem hx)
    exact World.cell?_spot (a := ad) (by simpa [Addr.add] using this)
  obtain ⟨b, off, spot⟩ := ad
  simp only at hspot
  subst hspot
  refine ⟨b, off, rfl, fun j u hu => ?_⟩
  have := hr j _ hu
  have ha : (⟨b, off, none⟩ : Addr).add j = ⟨b, off + j, none⟩ := by unfold Addr.add; split <;> simp_all
  rwa [ha] at this
theorem parts_pos {l : List Part} (h : 0 < (partsCells l).length) : 0 < l.length := by
  cases l with
  | nil => simp [partsCells] at h
  | cons p r => simp
theorem parts_pos' {l : List Part} (h : 0 < l.length) : 0 < (partsCells l).length := by
  cases l with
  | nil => simp at h
  | cons p r => simp [partsCells, partCells]
theorem parts_get (l : List Part) : ∀ (k : Nat) (p : Part), l[k]? = some p → (partsCells l)[k * 2]? = some (.bool p.var) ∧ (partsCells l)[k * 2 + 1]? = some (.string (bstr p.s)) := by
  induction l with
  | nil => intro k p h; simp at h
  | cons x l ih =>
    intro k p h
    cases k with
    | zero => simp at h; subst h; exact ⟨rfl, rfl⟩
    | succ k =>
      have := ih k p (by simpa using h)
      have e : partsCells (x :: l) = .bool x.var :: .string (bstr x.s) :: partsCells l := rfl
      rw [e, show (k + 1) * 2 = k * 2 + 1 + 1 by omega]
      exact this
theorem parts_at {w : World} {A : Option Addr} {n c : Nat} {ps : List Part} (h : PartsAt w (.slice A n c) ps) (hn : 0 < ps.length) :
    ∃ b o, A = some ⟨b, o, none⟩ ∧ ∀ k p, ps[k]? = some p → w.cell? ⟨b, o + k * 2, none⟩ = some (.bool p.var) ∧ w.cell? ⟨b, o + (k * 2 + 1), none⟩ = some (.string (bstr p.s)) := by
  obtain ⟨A0, c0, e0, h1⟩ := id h
  simp only [Value.slice.injEq] at e0
  obtain ⟨rfl, rfl, rfl⟩ := e0
  obtain ⟨b, o, rfl, hr⟩ := sl_row h (parts_pos' hn)
  refine ⟨b, o, rfl, fun k p hk => ?_⟩
  have hg := parts_get ps k p hk
  exact ⟨hr _ _ hg.1, hr _ _ hg.2⟩
end Pl
end Go.Proofs.Ytnjjbiialpmhbaa
namespace Go.Proofs.Ytnjjbiialpmhbaa
namespace Pl
open Go.RowKit Tcl Plan
/-- What is told of a slice's block. -/
def Blk (w : World) (B : Nat → Prop) (v : Value) (n : Nat) : Prop := ∀ q, 0 < n → v.ownBlock = some q → B q ∧ q < w.heap.size
theorem Blk.chg {S : List Nat} {w w' : World} {B : Nat → Prop} {v : Value} {n : Nat} (h : Blk w B v n) (hc : Chg S w w') : Blk w' B v n := fun q h0 hq => ⟨(h q h0 hq).1, Nat.lt_of_lt_of_le (h q h0 hq).2 hc.size⟩
theorem Blk.imp {w : World} {B B' : Nat → Prop} {v : Value} {n : Nat} (h : Blk w B v n) (hi : ∀ q, B q → q < w.heap.size → B' q) : Blk w B' v n := fun q h0 hq => ⟨hi q (h q h0 hq).1 (h q h0 hq).2, (h q h0 hq).2⟩
theorem PartsAt.chgB {S : List Nat} {w w' : World} {B : Nat → Prop} {v : Value} {l : List Part} (h : PartsAt w v l) (hb : Blk w B v l.length) (hc : Chg S w w') (hS : ∀ q, B q → q < w.heap.size → q ∉ S) : PartsAt w' v l :=
  Sl.chg h hc (fun h0 q hq => hS q (hb q (parts_pos h0) hq).1 (hb q (parts_pos h0) hq).2)
/-- A word's three cells. -/
def wordC (w : World) (B : Nat → Prop) (xs : List Value) (wd : Word) : Prop :=
  ∃ A c, xs = [.int .i64 wd.at_, .int .i64 wd.kind, .slice A wd.parts.length c] ∧ PartsAt w (.slice A wd.parts.length c) wd.parts ∧ Blk w B (.slice A wd.parts.length c) wd.parts.length
def wordsC (w : World) (B : Nat → Prop) : List Value → List Word → Prop
  | xs, [] => xs = []
  | xs, wd :: r => ∃ h t, xs = h ++ t ∧ wordC w B h wd ∧ wordsC w B t r
theorem wordC.chg {S : List Nat} {w w' : World} {B : Nat → Prop} {xs : List Value} {wd : Word} (h : wordC w B xs wd) (hc : Chg S w w') (hS : ∀ q, B q → q < w.heap.size → q ∉ S) : wordC w' B xs wd := by
  obtain ⟨A, c, h1, h2, h3⟩ := h
  exact ⟨A, c, h1, PartsAt.chgB h2 h3 hc hS, h3.chg hc⟩
theorem wordC.imp {w : World} {B B' : Nat → Prop} {xs : List Value} {wd : Word} (h : wordC w B xs wd) (hi : ∀ q, B q → q < w.heap.size → B' q) : wordC w B' xs wd := by
  obtain ⟨A, c, h1, h2, h3⟩ := h
  exact ⟨A, c, h1, h2, h3.imp hi⟩
theorem wordC.len {w : World} {B : Nat → Prop} {xs : List Value} {wd : Word} (h : wordC w B xs wd) : xs.length = 3 := by obtain ⟨A, c, rfl, -⟩ := h; rfl
theorem wordC.shift {w : World} {B : Nat → Prop} {xs : List Value} {wd : Word} (h : wordC w B xs wd) (b : Nat) : wordC w B (xs.set 0 (.int .i64 ((wd.at_ + b : Nat) : Int))) (shiftW b wd) := by
  obtain ⟨A, c, rfl, h2, h3⟩ := h
  exact ⟨A, c, rfl, h2, h3⟩
theorem wordsC.chg {S : List Nat} {w w' : World} {B : Nat → Prop} (hc : Chg S w w') (hS : ∀ q, B q → q < w.heap.size → q ∉ S) : ∀ {ws : List Word} {xs : List Value}, wordsC w B xs ws → wordsC w' B xs ws := by
  intro ws
  induction ws with
  | nil => intro xs h; exact h
  | cons wd r ih =>
    intro xs h
    obtain ⟨a, t, h1, h2, h3⟩ := h
    exact ⟨a, t, h1, h2.chg hc hS, ih h3⟩
theorem wordsC.imp {w : World} {B B' : Nat → Prop} (hi : ∀ q, B q → q < w.heap.size → B' q) : ∀ {ws : List Word} {xs : List Value}, wordsC w B xs ws → wordsC w B' xs ws := by
  intro ws
  induction ws with
  | nil => intro xs h; exact h
  | cons wd r ih =>
    intro xs h
    obtain ⟨a, t, h1, h2, h3⟩ := h
    exact ⟨a, t, h1, h2.imp hi, ih h3⟩
theorem wordsC.len {w : World} {B : Nat → Prop} : ∀ {ws : List Word} {xs : List Value}, wordsC w B xs ws → xs.length = ws.length * 3 := by
  intro ws
  induction ws with
  | nil => intro xs h; rw [show xs = [] from h]; rfl
  | cons wd r ih =>
    intro xs h
    obtain ⟨a, t, rfl, h2, h3⟩ := h
    rw [List.length_append, h2.len, ih h3, List.length_cons]; omega
theorem wordsC.append {w : World} {B : Nat → Prop} : ∀ {a b : List Word} {xs ys : List Value}, wordsC w B xs a → wordsC w B ys b → wordsC w B (xs ++ ys) (a ++ b) := by
  intro a
  induction a with
  | nil => intro b xs ys h k; rw [show xs = [] from h]; exact k
  | cons wd r ih =>
    intro b xs ys h k
    obtain ⟨p, t, rfl, h2, h3⟩ := h
    exact ⟨p, t ++ ys, by simp, h2, ih h3 k⟩
theorem wordsC.split {w : World} {B : Nat → Prop} : ∀ {a b : List Word} {xs : List Value}, wordsC w B xs (a ++ b) → ∃ ys zs, xs = ys ++ zs ∧ wordsC w B ys a ∧ wordsC w B zs b := by
  intro a
  induction a with
  | nil => intro b xs h; exact ⟨[], xs, rfl, rfl, h⟩
  | cons wd r ih =>
    intro b xs h
    obtain ⟨p, t, rfl, h2, h3⟩ := h
    obtain ⟨ys, zs, rfl, h4, h5⟩ := ih h3
    exact ⟨p ++ ys, zs, by simp, ⟨p, ys, rfl, h2, h4⟩, h5⟩
/-- The word at a place. -/
theorem wordsC.get {w : World} {B : Nat → Prop} : ∀ {ws : List Word} {xs : List Value} {k : Nat} {wd : Word}, wordsC w B xs ws → ws[k]? = some wd →
    ∃ A c, xs[k * 3]? = some (.int .i64 wd.at_) ∧ xs[k * 3 + 1]? = some (.int .i64 wd.kind) ∧ xs[k * 3 + 2]? = some (.slice A wd.parts.length c) ∧ PartsAt w (.slice A wd.parts.length c) wd.parts ∧ Blk w B (.slice A wd.parts.length c) wd.parts.length := by
  intro ws
  induction ws with
  | nil => intro xs k wd h hk; simp at hk
  | cons wd r ih =>
    intro xs k wd' h hk
    obtain ⟨p, t, rfl, h2, h3⟩ := h
    cases k with
    | zero =>
      simp at hk; subst hk
      obtain ⟨A, c, rfl, h4, h5⟩ := h2
      exact ⟨A, c, rfl, rfl, rfl, h4, h5⟩
    | succ k =>
      simp at hk
      have hl := h2.len
      obtain ⟨A, c, e1, e2, e3, h4⟩ := ih h3 hk
      refine ⟨A, c, ?_, ?_, ?_, h4⟩
      · rw [List.getElem?_append_right (by omega), ← e1]; congr 1; omega
      · rw [List.getElem?_append_right (by omega), ← e2]; congr 1; omega
      · rw [List.getElem?_append_right (by omega), ← e3]; congr 1; omega
/-- A word's place is turned. -/
theorem wordsC.turn {w : World} {B : Nat → Prop} (b : Nat) : ∀ {ws : List Word} {xs : List Value} {k : Nat} {wd : Word}, wordsC w B xs ws → ws[k]? = some wd →
    wordsC w B (xs.set (k * 3) (.int .i64 ((wd.at_ + b : Nat) : Int))) (ws.set k (shiftW b wd)) := by
  intro ws
  induction ws with
  | nil => intro xs k wd h hk; simp at hk
  | cons wd r ih =>
    intro xs k wd' h hk
    obtain ⟨p, t, rfl, h2, h3⟩ := h
    have hl := h2.len
    cases k with
    | zero =>
      simp at hk; subst hk
      refine ⟨p.set 0 (.int .i64 ((wd.at_ + b : Nat) : Int)), t, ?_, h2.shift b, h3⟩
      rw [Nat.zero_mul, List.set_append_left _ _ (by omega)]
    | succ k =>
      simp at hk
      refine ⟨p, t.set (k * 3) (.int .i64 ((wd'.at_ + b : Nat) : Int)), ?_, h2, ih h3 hk⟩
      rw [List.set_append_right _ _ (by omega), hl]
      congr 2; omega
theorem wordsC_of {w : World} {base : Nat} {row : Option Nat} : ∀ {ws : List Word} {xs : List Value}, WordsAt w base row xs ws → wordsC w (fun q => base ≤ q ∧ row ≠ some q) xs ws := by
  intro ws
  induction ws with
  | nil => intro xs h; exact List.length_eq_zero_iff.1 (by have := h.1; simpa using this)
  | cons wd r ih =>
    intro xs h
    have hl := h.1
    obtain ⟨A, c, e1, e2, e3, h4, h5⟩ := h.2 0 wd rfl
    match xs, hl, e1, e2, e3 with
    | [], hl, _, _, _ => simp at hl
    | [_], hl, _, _, _ => simp at hl; omega
    | [_, _], hl, _, _, _ => simp at hl; omega
    | a :: b :: d :: t, hl, e1, e2, e3 =>
      simp at e1 e2 e3
      subst e1 e2 e3
      refine ⟨[.int .i64 wd.at_, .int .i64 wd.kind, .slice A wd.parts.length c], t, rfl, ⟨A, c, rfl, h4, fun q h0 hq => ?_⟩, ih ⟨by simp at hl; omega, fun k wd' hk => ?_⟩⟩
      · have := h5 q (parts_pos' h0) hq
        exact ⟨⟨this.1, this.2.2⟩, this.2.1⟩
      · obtain ⟨A', c', f1, f2, f3, f4⟩ := h.2 (k + 1) wd' (by simpa using hk)
        refine ⟨A', c', ?_, ?_, ?_, f4⟩
        · rw [← f1, show (k + 1) * 3 = k * 3 + 3 by omega]; rfl
        · rw [← f2, show (k + 1) * 3 + 1 = k * 3 + 1 + 3 by omega]; rfl
        · rw [← f3, show (k + 1) * 3 + 2 = k * 3 + 2 + 3 by omega]; rfl
/-- A command's two cells. -/
def cmdC (w : World) (B : Nat → Prop) (xs : List Value) (cm : Cmd) : Prop :=
  ∃ A c ys, xs = [.int .i64 cm.at_, .slice A cm.words.length c] ∧ Sl w 3 (.slice A cm.words.length c) cm.words.length ys ∧ Blk w B (.slice A cm.words.length c) cm.words.length ∧ wordsC w B ys cm.words
def cmdsC (w : World) (B : Nat → Prop) : List Value → List Cmd → Prop
  | xs, [] => xs = []
  | xs, cm :: r => ∃ h t, xs = h ++ t ∧ cmdC w B h cm ∧ cmdsC w B t r
theorem cmdC.chg {S : List Nat} {w w' : World} {B : Nat → Prop} {xs : List Value} {cm : Cmd} (h : cmdC w B xs cm) (hc : Chg S w w') (hS : ∀ q, B q → q < w.heap.size → q ∉ S) : cmdC w' B xs cm := by
  obtain ⟨A, c, ys, h1, h2, h3, h4⟩ := h
  have hl := h2.len
  exact ⟨A, c, ys, h1, h2.chg hc (fun h0 q hq => hS q (h3 q (by omega) hq).1 (h3 q (by omega) hq).2), h3.chg hc, wordsC.chg hc hS h4⟩
theorem cmdC.imp {w : World} {B B' : Nat → Prop} {xs : List Value} {cm : Cmd} (h : cmdC w B xs cm) (hi : ∀ q, B q → q < w.heap.size → B' q) : cmdC w B' xs cm := by
  obtain ⟨A, c, ys, h1, h2, h3, h4⟩ := h
  exact ⟨A, c, ys, h1, h2, h3.imp hi, wordsC.imp hi h4⟩
theorem cmdsC.chg {S : List Nat} {w w' : World} {B : Nat → Prop} (hc : Chg S w w') (hS : ∀ q, B q → q < w.heap.size → q ∉ S) : ∀ {cs : List Cmd} {xs : List Value}, cmdsC w B xs cs → cmdsC w' B xs cs := by
  intro cs
  induction cs with
  | nil => intro xs h; exact h
  | cons wd r ih =>
    intro xs h
    obtain ⟨a, t, h1, h2, h3⟩ := h
    exact ⟨a, t, h1, h2.chg hc hS, ih h3⟩
theorem cmdsC.imp {w : World} {B B' : Nat → Prop} (hi : ∀ q, B q → q < w.heap.size → B' q) : ∀ {cs : List Cmd} {xs : List Value}, cmdsC w B xs cs → cmdsC w B' xs cs := by
  intro cs
  induction cs with
  | nil => intro xs h; exact h
  | cons wd r ih =>
    intro xs h
    obtain ⟨a, t, h1, h2, h3⟩ := h
    exact ⟨a, t, h1, h2.imp hi, ih h3⟩
theorem cmdsC.len {w : World} {B : Nat → Prop} : ∀ {cs : List Cmd} {xs : List Value}, cmdsC w B xs cs → xs.length = cs.length * 2 := by
  intro cs
  induction cs with
  | nil => intro xs h; rw [show xs = [] from h]; rfl
  | cons wd r ih =>
    intro xs h
    obtain ⟨a, t, rfl, h2, h3⟩ := h
    obtain ⟨A, c, ys, rfl, -⟩ := h2
    rw [List.length_append, ih h3, List.length_cons, List.length_cons]; simp; omega
theorem cmdsC.get {w : World} {B : Nat → Prop} : ∀ {cs : List Cmd} {xs : List Value} {k : Nat} {cm : Cmd}, cmdsC w B xs cs → cs[k]? = some cm →
    ∃ A c ys, xs[k * 2]? = some (.int .i64 cm.at_) ∧ xs[k * 2 + 1]? = some (.slice A cm.words.length c) ∧ Sl w 3 (.slice A cm.words.length c) cm.words.length ys ∧ Blk w B (.slice A cm.words.length c) cm.words.length ∧ wordsC w B ys cm.words := by
  intro cs
  induction cs with
  | nil => intro xs k cm h hk; simp at hk
  | cons c0 r ih =>
    intro xs k cm h hk
    obtain ⟨p, t, rfl, h2, h3⟩ := h
    obtain ⟨A, c, ys, rfl, h4⟩ := h2
    cases k with
    | zero => simp at hk; subst hk; exact ⟨A, c, ys, rfl, rfl, h4⟩
    | succ k =>
      simp at hk
      obtain ⟨A, c, ys, e1, e2, h5⟩ := ih h3 hk
      refine ⟨A, c, ys, ?_, ?_, h5⟩
      · rw [← e1, show (k + 1) * 2 = k * 2 + 2 by omega]; rfl
      · rw [← e2, show (k + 1) * 2 + 1 = k * 2 + 1 + 2 by omega]; rfl
end Pl
end Go.Proofs.Ytnjjbiialpmhbaa
namespace Go.Proofs.Ytnjjbiialpmhbaa
namespace Pl
open Go.RowKit Tcl Plan
theorem own_less {w : World} {base base' : Nat} {e : TypeId} {size n : Nat} {v : Value} {xs : List Value} (h : w.ownsRow base e size v n xs) (hb : base' ≤ base) : w.ownsRow base' e size v n xs := by
  obtain ⟨h1, h2⟩ := h
  refine ⟨h1, ?_⟩
  rcases h2 with h2 | ⟨g, cap, cur, h3, h4, h5⟩
  · exact .inl h2
  · exact .inr ⟨g, cap, cur, h3, Nat.le_trans hb h4, h5⟩
/-- A command between `lo` and `mid`, nothing of it in `row`. -/
def cmdO (w : World) (row : Option Nat) (lo mid : Nat) (xs : List Value) (cm : Cmd) : Prop :=
  ∃ A c ys, xs = [.int .i64 cm.at_, .slice A cm.words.length c] ∧ w.ownsRow lo 35 3 (.slice A cm.words.length c) cm.words.length ys ∧ (∀ q, (Value.slice A cm.words.length c).ownBlock = some q → q < mid ∧ row ≠ some q) ∧
    wordsC w (fun q => lo ≤ q ∧ q < mid ∧ row ≠ some q ∧ (Value.slice A cm.words.length c).ownBlock ≠ some q) ys cm.words
def cmdsO (w : World) (row : Option Nat) : Nat → Nat → List Value → List Cmd → Prop
  | lo, hi, xs, [] => xs = [] ∧ lo ≤ hi
  | lo, hi, xs, cm :: r => ∃ mid h t, lo ≤ mid ∧ xs = h ++ t ∧ cmdO w row lo mid h cm ∧ cmdsO w row mid hi t r
theorem cmdO.chg {S : List Nat} {w w' : World} {row : Option Nat} {lo mid : Nat} {xs : List Value} {cm : Cmd} (h : cmdO w row lo mid xs cm) (hc : Chg S w w') (hS : ∀ q, lo ≤ q → q < mid → row ≠ some q → q ∉ S) : cmdO w' row lo mid xs cm := by
  obtain ⟨A, c, ys, h1, h2, h3, h4⟩ := h
  exact ⟨A, c, ys, h1, own_chg h2 hc (fun q hq => hS q (h2.lt q hq).1 (h3 q hq).1 (h3 q hq).2), h3, wordsC.chg hc (fun q hq _ => hS q hq.1 hq.2.1 hq.2.2.1) h4⟩
theorem cmdO.row {w : World} {row row' : Option Nat} {lo mid : Nat} {xs : List Value} {cm : Cmd} (h : cmdO w row lo mid xs cm) (hr : row' = row ∨ ∀ q, row' = some q → mid ≤ q) : cmdO w row' lo mid xs cm := by
  obtain ⟨A, c, ys, h1, h2, h3, h4⟩ := h
  have hn : ∀ q, q < mid → row ≠ some q → row' ≠ some q := fun q hq hn e => by
    rcases hr with hr | hr
    · exact hn (hr ▸ e)
    · have := hr q e; omega
  exact ⟨A, c, ys, h1, h2, fun q hq => ⟨(h3 q hq).1, hn q (h3 q hq).1 (h3 q hq).2⟩, wordsC.imp (fun q hq _ => ⟨hq.1, hq.2.1, hn q hq.2.1 hq.2.2.1, hq.2.2.2⟩) h4⟩
theorem cmdO.mono {w : World} {row : Option Nat} {lo lo' mid mid' : Nat} {xs : List Value} {cm : Cmd} (h : cmdO w row lo mid xs cm) (hl : lo' ≤ lo) (hm : mid ≤ mid') : cmdO w row lo' mid' xs cm := by
  obtain ⟨A, c, ys, h1, h2, h3, h4⟩ := h
  exact ⟨A, c, ys, h1, own_less h2 hl, fun q hq => ⟨Nat.lt_of_lt_of_le (h3 q hq).1 hm, (h3 q hq).2⟩, wordsC.imp (fun q hq _ => ⟨by have := hq.1; omega, by have := hq.2.1; omega, hq.2.2⟩) h4⟩
theorem cmdsO.le {w : World} {row : Option Nat} : ∀ {cs : List Cmd} {lo hi : Nat} {xs : List Value}, cmdsO w row lo hi xs cs → lo ≤ hi := by
  intro cs
  induction cs with
  | nil => intro lo hi xs h; exact h.2
  | cons c r ih => intro lo hi xs h; obtain ⟨mid, a, t, h1, h2, h3, h4⟩ := h; exact Nat.le_trans h1 (ih h4)
theorem cmdsO.len {w : World} {row : Option Nat} : ∀ {cs : List Cmd} {lo hi : Nat} {xs : List Value}, cmdsO w row lo hi xs cs → xs.length = cs.length * 2 := by
  intro cs
  induction cs with
  | nil => intro lo hi xs h; rw [h.1]; rfl
  | cons c r ih =>
    intro lo hi xs h
    obtain ⟨mid, a, t, h1, rfl, h3, h4⟩ := h
    obtain ⟨A, c, ys, rfl, -⟩ := h3
    rw [List.length_append, ih h4, List.length_cons, List.length_cons]; simp; omega
theorem cmdsO.chg {S : List Nat} {w w' : World} {row : Option Nat} (hc : Chg S w w') : ∀ {cs : List Cmd} {lo hi : Nat} {xs : List Value}, cmdsO w row lo hi xs cs → (∀ q, lo ≤ q → q < hi → row ≠ some q → q ∉ S) → cmdsO w' row lo hi xs cs := by
  intro cs
  induction cs with
  | nil => intro lo hi xs h _; exact h
  | cons c r ih =>
    intro lo hi xs h hS
    obtain ⟨mid, a, t, h1, h2, h3, h4⟩ := h
    have := h4.le
    exact ⟨mid, a, t, h1, h2, h3.chg hc (fun q h5 h6 => hS q h5 (by omega)), ih h4 (fun q h5 => hS q (by omega))⟩
theorem cmdsO.row {w : World} {row row' : Option Nat} : ∀ {cs : List Cmd} {lo hi : Nat} {xs : List Value}, cmdsO w row lo hi xs cs → (row' = row ∨ ∀ q, row' = some q → hi ≤ q) → cmdsO w row' lo hi xs cs := by
  intro cs
  induction cs with
  | nil => intro lo hi xs h _; exact h
  | cons c r ih =>
    intro lo hi xs h hr
    obtain ⟨mid, a, t, h1, h2, h3, h4⟩ := h
    have := h4.le
    exact ⟨mid, a, t, h1, h2, h3.row (hr.imp id (fun hr q hq => by have := hr q hq; omega)), ih h4 hr⟩
theorem cmdsO.mono {w : World} {row : Option Nat} : ∀ {cs : List Cmd} {lo hi lo' hi' : Nat} {xs : List Value}, cmdsO w row lo hi xs cs → lo' ≤ lo → hi ≤ hi' → cmdsO w row lo' hi' xs cs := by
  intro cs
  induction cs with
  | nil => intro lo hi lo' hi' xs h hl hh; exact ⟨h.1, by have := h.2; omega⟩
  | cons c r ih =>
    intro lo hi lo' hi' xs h hl hh
    obtain ⟨mid, a, t, h1, h2, h3, h4⟩ := h
    exact ⟨mid, a, t, by omega, h2, h3.mono hl (Nat.le_refl _), ih h4 (Nat.le_refl _) hh⟩
theorem cmdsO.append {w : World} {row : Option Nat} {cs' : List Cmd} {mid hi : Nat} {ys : List Value} (k : cmdsO w row mid hi ys cs') : ∀ {cs : List Cmd} {lo : Nat} {xs : List Value}, cmdsO w row lo mid xs cs → cmdsO w row lo hi (xs ++ ys) (cs ++ cs') := by
  intro cs
  induction cs with
  | nil => intro lo xs h; rw [h.1]; exact k.mono h.2 (Nat.le_refl _)
  | cons c r ih =>
    intro lo xs h
    obtain ⟨m, a, t, h1, rfl, h3, h4⟩ := h
    exact ⟨m, a, t ++ ys, h1, by simp, h3, ih h4⟩
theorem cmdsO.one {w : World} {row : Option Nat} {lo mid : Nat} {xs : List Value} {cm : Cmd} (h : cmdO w row lo mid xs cm) (hl : lo ≤ mid) : cmdsO w row lo mid xs [cm] := ⟨mid, xs, [], hl, by simp, h, rfl, Nat.le_refl _⟩
theorem cmdsO.split {w : World} {row : Option Nat} {b : List Cmd} {hi : Nat} : ∀ {a : List Cmd} {lo : Nat} {xs : List Value}, cmdsO w row lo hi xs (a ++ b) → ∃ mid ys zs, xs = ys ++ zs ∧ cmdsO w row lo mid ys a ∧ cmdsO w row mid hi zs b := by
  intro a
  induction a with
  | nil => intro lo xs h; exact ⟨lo, [], xs, rfl, ⟨rfl, Nat.le_refl _⟩, h⟩
  | cons c r ih =>
    intro lo xs h
    obtain ⟨m, p, t, h1, rfl, h3, h4⟩ := h
    obtain ⟨mid, ys, zs, rfl, h5, h6⟩ := ih h4
    exact ⟨mid, p ++ ys, zs, by simp, ⟨m, p, ys, h1, rfl, h3, h5⟩, h6⟩
theorem cmdsO.plain {w : World} {row : Option Nat} : ∀ {cs : List Cmd} {lo hi : Nat} {xs : List Value}, cmdsO w row lo hi xs cs → cmdsC w (fun q => lo ≤ q ∧ row ≠ some q) xs cs := by
  intro cs
  induction cs with
  | nil => intro lo hi xs h; exact h.1
  | cons c r ih =>
    intro lo hi xs h
    obtain ⟨mid, a, t, h1, rfl, h3, h4⟩ := h
    obtain ⟨A, cc, ys, rfl, h5, h6, h7⟩ := h3
    refine ⟨_, t, rfl, ⟨A, cc, ys, rfl, own_sl h5, fun q _ hq => ⟨⟨(h5.lt q hq).1, (h6 q hq).2⟩, (h5.lt q hq).2⟩, wordsC.imp (fun q hq _ => ⟨hq.1, hq.2.2.1⟩) h7⟩, cmdsC.imp (fun q hq _ => ⟨by have := hq.1; omega, hq.2⟩) (ih h4)⟩
/-- The commands of a row. -/
def CmdsAt (w : World) (base : Nat) (row : Option Nat) (xs : List Value) (cs : List Cmd) : Prop := ∃ hi, hi ≤ w.heap.size ∧ cmdsO w row base hi xs cs
theorem CmdsAt.nil (w : World) (base : Nat) (row : Option Nat) (h : base ≤ w.heap.size) : CmdsAt w base row [] [] := ⟨base, h, rfl, Nat.le_refl _⟩
theorem CmdsAt.chg {S : List Nat} {w w' : World} {base : Nat} {row : Option Nat} {xs : List Value} {cs : List Cmd} (h : CmdsAt w base row xs cs) (hc : Chg S w w') (hS : ∀ k ∈ S, k < base ∨ row = some k ∨ w.heap.size ≤ k) : CmdsAt w' base row xs cs := by
  obtain ⟨hi, h1, h2⟩ := h
  exact ⟨hi, Nat.le_trans h1 hc.size, h2.chg hc (fun q h3 h4 h5 hm => by
    rcases hS q hm with h6 | h6 | h6
    · omega
    · exact h5 h6
    · omega)⟩
theorem CmdsAt.less {w : World} {base base' : Nat} {row : Option Nat} {xs : List Value} {cs : List Cmd} (h : CmdsAt w base row xs cs) (hb : base' ≤ base) : CmdsAt w base' row xs cs := by
  obtain ⟨hi, h1, h2⟩ := h
  exact ⟨hi, h1, h2.mono hb (Nat.le_refl _)⟩
/-- How far Parse is: well so far, or something is wrong. -/
def PaGo (w0 w : World) (g : Nat) (s : List UInt8) (B : ByteArray) (row : Option Nat) (xs : List Value) (n gk : Nat) : Prop :=
  (∃ (i : Nat) (cs : List Cmd), PS w g B i 0 0 ∧ CmdsAt w (w0.heap.size + 1) row xs cs ∧ cs.length = n ∧ parseGo s 0 [] = parseGo s i cs ∧ i ≤ s.length ∧ n ≤ i ∧ gk = s.length - i)
  ∨ (∃ p q : Nat, PS w g B s.length p q ∧ parseGo s 0 [] = .error (p, q) ∧ q ≠ 0 ∧ gk = 0)
/-- A command is read, and is not yet in the row. -/
def PaMid (w0 w : World) (g : Nat) (s : List UInt8) (B : ByteArray) (row : Option Nat) (xs : List Value) (n : Nat) (v : List Value) (gk : Nat) : Prop :=
  (∃ (j : Nat) (cs : List Cmd) (cm : Cmd) (A : Option Addr) (c : Nat) (ys : List Value) (hi : Nat), PS w g B j 0 0 ∧ cmdsO w row (w0.heap.size + 1) hi xs cs ∧ cs.length = n ∧ parseGo s 0 [] = parseGo s j (cs ++ [cm]) ∧ j ≤ s.length ∧ n + 1 ≤ j ∧ gk = s.length - j ∧
    v = [.int .i64 cm.at_, .slice A cm.words.length c] ∧ w.ownsRow hi 35 3 (.slice A cm.words.length c) cm.words.length ys ∧ WordsAt w hi (Value.slice A cm.words.length c).ownBlock ys cm.words ∧ (∀ q, row = some q → q < hi) ∧ hi ≤ w.heap.size)
  ∨ (∃ p q : Nat, PS w g B s.length p q ∧ parseGo s 0 [] = .error (p, q) ∧ q ≠ 0 ∧ gk = 0)
theorem PaMid.go {S : List Nat} {w0 W w' : World} {g : Nat} {s : List UInt8} {B : ByteArray} {row row' : Option Nat} {xs v : List Value} {n gk : Nat} (h : PaMid w0 W g s B row xs n v gk) (hc : Chg S W w')
    (hS : ∀ k ∈ S, k ≠ g ∧ (k < w0.heap.size + 1 ∨ row = some k ∨ W.heap.size ≤ k)) (hr : row' = row ∨ ∀ q, row' = some q → W.heap.size ≤ q) : PaGo w0 w' g s B row' (xs ++ v) (n + 1) gk := by
  have hgS : g ∉ S := fun hm => (hS g hm).1 rfl
  rcases h with ⟨j, cs, cm, A, c, ys, hi, h1, h2, h3, h4, h5, h6, h7, rfl, h8, h8', h9, h10⟩ | ⟨p, q, h1, h2, h3, h4⟩
  · have hle := h2.le
    have hnS : ∀ q, w0.heap.size + 1 ≤ q → q < W.heap.size → row ≠ some q → q ∉ S := fun q k1 k2 k3 hm => by
      rcases (hS q hm).2 with h6 | h6 | h6
      · omega
      · exact k3 h6
      · omega
    have hnr : ∀ q, hi ≤ q → row ≠ some q := fun q hq e => by have := h9 q e; omega
    have hnr' : ∀ q, hi ≤ q → q < W.heap.size → row' ≠ some q := fun q hq hq2 e => by
      rcases hr with hr | hr
      · exact hnr q hq (hr ▸ e)
      · have := hr q e; omega
    have k1 : cmdsO w' row' (w0.heap.size + 1) hi xs cs := (h2.chg hc (fun q a b => hnS q a (by omega))).row (hr.imp id (fun hr q hq => by have := hr q hq; omega))
    have k2 : cmdO w' row' hi W.heap.size [.int .i64 cm.at_, .slice A cm.words.length c] cm :=
      ⟨A, c, ys, rfl, own_chg h8 hc (fun q hq => hnS q (by have := (h8.lt q hq).1; omega) (h8.lt q hq).2 (hnr q (h8.lt q hq).1)), fun q hq => ⟨(h8.lt q hq).2, hnr' q (h8.lt q hq).1 (h8.lt q hq).2⟩,
        wordsC.chg hc (fun q hq _ => hnS q (by have := hq.1; omega) hq.2.1 (hnr q hq.1)) (wordsC.imp (fun q hq hl => ⟨hq.1, hl, hnr' q hq.1 hl, hq.2⟩) (wordsC_of h8'))⟩
    exact .inl ⟨j, cs ++ [cm], h1.chg hc hgS, ⟨W.heap.size, hc.size, cmdsO.append (cmdsO.one k2 h10) k1⟩, by simp [h3], h4, h5, h6, h7⟩
  · exact .inr ⟨p, q, h1.chg hc hgS, h2, h3, h4⟩
end Pl
end Go.Proofs.Ytnjjbiialpmhbaa
namespace Go.Proofs.Ytnjjbiialpmhbaa
namespace Pl
open Go.RowKit Tcl
/-- What `command` tells. -/
def CmEnd (w : World) (g : Nat) (s : List UInt8) (i0 : Nat) (a0 : Int) (e : Ending) (w' : World) : Prop :=
  ∃ (A : Option Addr) (n cc : Nat), e = .returned (.agg #[.int .i64 i0, .slice A n cc]) ∧ Chg [g] w w' ∧
    ((∃ ws j ys, command s i0 [] = .ok (ws, j) ∧ PS w' g (bstr s) j a0 0 ∧ n = ws.length ∧ w'.ownsRow w.heap.size 35 3 (.slice A n cc) n ys ∧ WordsAt w' w.heap.size (Value.slice A n cc).ownBlock ys ws ∧ ∀ q, (Value.slice A n cc).ownBlock = some q → w.heap.size ≤ q)
    ∨ (∃ p q : Nat, command s i0 [] = .error (p, q) ∧ PS w' g (bstr s) s.length p q ∧ q ≠ 0))
set_option maxRecDepth 100000 in
set_option maxHeartbeats 16000000 in
theorem command_any (w : World) (g : Nat) (s : List UInt8) (i0 : Nat) (a0 : Int) (hs : s.length ≤ 16777300) (hi0 : i0 ≤ s.length) (h : PS w g (bstr s) i0 a0 0) :
    Calls Try.prog 49 #[.pointer (some ⟨g, 0, none⟩)] w (CmEnd w g s i0 a0) := by
  have hsz : (bstr s).size = s.length := rfl
  obtain ⟨B, hB⟩ : ∃ B, bstr s = B := ⟨_, rfl⟩
  have hby : ∀ i (h : i < B.size), s[i]? = some (B[i]'h) := by rw [← hB]; exact fun i h => byte_of h
  have hgl := lt_heap h
  unfold CmEnd
  have hwd := Lib.hid (fun W (i : Nat) (c : UInt8) (hc : s[i]? = some c) (hst : stopB c = false) (hP : PS W g (bstr s) i a0 0) => word_any W g s i c a0 hs hc hst hP)
  rw [hB] at h hsz hwd ⊢
  obtain ⟨c0, c1, -, -⟩ := h.c0
  replace hby := Lib.hid hby
  have hP : Hid (PS ((w.alloc (.cells #[.int .i64 0, .slice none 0 0] 32)).alloc (.cells #[.int .i64 i0, .slice none 0 0] 32)) g B i0 a0 0) := Lib.hid (PS.chg h (((Chg.refl [] w).alloc _).alloc _) (by simp))
  have hR : Hid (CS ((w.alloc (.cells #[.int .i64 0, .slice none 0 0] 32)).alloc (.cells #[.int .i64 i0, .slice none 0 0] 32)) w.heap.size (.int .i64 0) (.slice none 0 0)) := Lib.hid (blk_alloc (blk_new _ _) _)
  have hV : Hid (CS ((w.alloc (.cells #[.int .i64 0, .slice none 0 0] 32)).alloc (.cells #[.int .i64 i0, .slice none 0 0] 32)) (w.heap.size + 1) (.int .i64 i0) (.slice none 0 0)) := Lib.hid (by
    have := blk_new (w.alloc (.cells #[.int .i64 0, .slice none 0 0] 32)) (.cells #[.int .i64 i0, .slice none 0 0] 32)
    rw [show (w.alloc (.cells #[.int .i64 0, .slice none 0 0] 32)).heap.size = w.heap.size + 1 from Array.size_push ..] at this
    exact this)
  have hC : Hid (Chg [g] w ((w.alloc (.cells #[.int .i64 0, .slice none 0 0] 32)).alloc (.cells #[.int .i64 i0, .slice none 0 0] 32))) := Lib.hid (((Chg.refl [g] w).alloc _).alloc _)
  go_enter Try.func49, Try.ntmps49
  go_wp2_with fail
  go_loopg [] (s.length - i0) (fun gk wr => ∃ (A : Option Addr) (n cc : Nat) (xs : List Value), CS wr w.heap.size (.int .i64 0) (.slice none 0 0) ∧ CS wr (w.heap.size + 1) (.int .i64 i0) (.slice A n cc) ∧ wr.ownsRow w.heap.size 35 3 (.slice A n cc) n xs ∧ Chg [g] w wr ∧ CmGo w wr g s B i0 a0 (Value.slice A n cc).ownBlock xs n gk)
  case atStart => exact ⟨none, 0, 0, [], hR.out, hV.out, World.ownsRow_nil _ _ _ _, hC.out, .inl ⟨i0, [], hP.out, WordsAt.nil _ _ _, rfl, rfl, hi0, by omega, rfl⟩⟩
  case round =>
    clear hP hR hV hC h
    obtain ⟨A, n, cc, xs, hR, hV, hO, hC, hgo⟩ := hrel
    replace hR := Lib.hid hR
    replace hV := Lib.hid hV
    replace hO := Lib.hid hO
    replace hC := Lib.hid hC
    rcases hgo with ⟨i, ws, hP, hX, hlen, hcm, hil, hni, rfl⟩ | ⟨p, q, hP, hcm, hq0, rfl⟩
    · replace hP := Lib.hid hP
      replace hX := Lib.hid hX
      replace hlen := Lib.hid hlen
      by_cases hlt : i < s.length
      · have hlB : i < B.size := by omega
        obtain ⟨c, hc⟩ : ∃ c, B[i]'hlB = c := ⟨_, rfl⟩
        have hsc : s[i]? = some c := by rw [hby.out i hlB, hc]
        have hstep := Lib.hid (hcm.trans (command_some hsc))
        clear hcm
        obtain ⟨c0, c1, -, -⟩ := hP.out.c0
        have f1 := hP.out.f0 1
        obtain ⟨d0, d1⟩ := hV.out.c0
        have e0 := hV.out.f0 0
        have e1 := hV.out.f0 1
        obtain ⟨r0, r1⟩ := hR.out.c0
        have x0 := hR.out.f0 0
        have x1 := hR.out.f0 1

        cases hce : endB c with
        | true =>
          have hE := Lib.hid (hstep.out.trans (if_pos hce))
          have hin := Lib.hid (fun W => in_any ⟨#[10, 59]⟩ c true (in_ends c true hce) W)
          clear hstep
          go_wp2_with fail
          go_quiet ((go_at_call 47; exact (hin.out _).mono (fun e w' h => ⟨h.1, _, h.2.symm⟩)))
          replace hP := Lib.hid (PS.chg hP.out ((Chg.refl [] _).drewN nq) (by simp))
          replace hR := Lib.hid (CS.chg hR.out ((Chg.refl [] _).drewN nq) (by simp))
          replace hV := Lib.hid (CS.chg hV.out ((Chg.refl [] _).drewN nq) (by simp))
          replace hO := Lib.hid (own_drewN hO.out nq)
          replace hC := Lib.hid (hC.out.drewN nq)
          replace hX := Lib.hid (WordsAt.chg hX.out ((Chg.refl [] _).drewN nq) (by simp))
          clear c0 c1 f1 d0 d1 e0 e1 r0 r1 x0 x1
          generalize World.drewN _ _ = w1 at hP hR hV hO hC hX ⊢

          obtain ⟨c0, c1, -, -⟩ := hP.out.c0
          have f1 := hP.out.f0 1
          obtain ⟨d0, d1⟩ := hV.out.c0
          have e0 := hV.out.f0 0
          have e1 := hV.out.f0 1
          obtain ⟨r0, r1⟩ := hR.out.c0
          have x0 := hR.out.f0 0
          have x1 := hR.out.f0 1

          go_wp2_with fail
          clear c0 c1 f1 d0 d1 e0 e1 r0 r1 x0 x1
          have hF := Lib.hid (show CS _ w.heap.size (.int .i64 i0) (.slice A n cc) from blk_set (blk_set hR.out 0 (.int .i64 i0)) 1 (.slice A n cc))
          have h3 := fun (W : World) => (((Chg.refl [w.heap.size] W).setCell (p := ⟨w.heap.size, 0, none⟩) (.inl (by simp)) (.int .i64 i0)).setCell (p := ⟨w.heap.size, 1, none⟩) (.inl (by simp)) (.slice A n cc))
          refine bodyPost_ret (v := .agg #[.int .i64 i0, .slice A n cc]) ?_ rfl ⟨A, n, cc, rfl, (hC.out.setCell (.inr (Nat.le_refl _)) _).setCell (.inr (Nat.le_refl _)) _, ?_⟩
          · exact results_cell_row rfl _ _ _ 32 _ (0, 0) _ rfl hF.out Try.underlying32 rfl (by kernel_rfl)
          · exact .inl ⟨_, _, xs, hE.out, PS.chg hP.out (h3 _) (by have := hgl; simp; omega), hlen.out.symm, (own_chg hO.out (h3 _) (fun k hk hm => own_not hO.out hR.out (by decide) (by simp at hm; rw [hm] at hk; exact hk))), (hX.out.chg (h3 _) (by intro k hk; simp at hk; omega)).less (by omega), fun q hq => (hO.out.lt q hq).1⟩

        | false =>
          have hst1 := hstep.out.trans (if_neg (by rw [hce]; decide))
          have hin := Lib.hid (fun W => in_any ⟨#[10, 59]⟩ c false (in_ends c false hce) W)
          clear hstep
          go_wp2_with fail
          go_quiet ((go_at_call 47; exact (hin.out _).mono (fun e w' h => ⟨h.1, _, h.2.symm⟩)))
          replace hP := Lib.hid (PS.chg hP.out ((Chg.refl [] _).drewN nq) (by simp))
          replace hR := Lib.hid (CS.chg hR.out ((Chg.refl [] _).drewN nq) (by simp))
          replace hV := Lib.hid (CS.chg hV.out ((Chg.refl [] _).drewN nq) (by simp))
          replace hO := Lib.hid (own_drewN hO.out nq)
          replace hC := Lib.hid (hC.out.drewN nq)
          replace hX := Lib.hid (WordsAt.chg hX.out ((Chg.refl [] _).drewN nq) (by simp))
          clear c0 c1 f1 d0 d1 e0 e1 r0 r1 x0 x1
          generalize World.drewN _ _ = w1 at hP hR hV hO hC hX ⊢

          obtain ⟨c0, c1, -, -⟩ := hP.out.c0
          have f1 := hP.out.f0 1
          obtain ⟨d0, d1⟩ := hV.out.c0
          have e0 := hV.out.f0 0
          have e1 := hV.out.f0 1
          obtain ⟨r0, r1⟩ := hR.out.c0
          have x0 := hR.out.f0 0
          have x1 := hR.out.f0 1

          clear hin
          cases hcb : blankB c with
          | true =>
            have hst2 := Lib.hid (hst1.trans (if_pos hcb))
            have hin := Lib.hid (fun W => in_any ⟨#[32, 9]⟩ c true (in_blanks c true hcb) W)
            clear hst1
            go_wp2_with fail
            go_quiet ((go_at_call 47; exact (hin.out _).mono (fun e w' h => ⟨h.1, _, h.2.symm⟩)))
            replace hP := Lib.hid (PS.chg hP.out ((Chg.refl [] _).drewN nq) (by simp))
            replace hR := Lib.hid (CS.chg hR.out ((Chg.refl [] _).drewN nq) (by simp))
            replace hV := Lib.hid (CS.chg hV.out ((Chg.refl [] _).drewN nq) (by simp))
            replace hO := Lib.hid (own_drewN hO.out nq)
            replace hC := Lib.hid (hC.out.drewN nq)
            replace hX := Lib.hid (WordsAt.chg hX.out ((Chg.refl [] _).drewN nq) (by simp))
            clear c0 c1 f1 d0 d1 e0 e1 r0 r1 x0 x1
            generalize World.drewN _ _ = w2 at hP hR hV hO hC hX ⊢

            obtain ⟨c0, c1, -, -⟩ := hP.out.c0
            have f1 := hP.out.f0 1
            obtain ⟨d0, d1⟩ := hV.out.c0
            have e0 := hV.out.f0 0
            have e1 := hV.out.f0 1
            obtain ⟨r0, r1⟩ := hR.out.c0
            have x0 := hR.out.f0 0
            have x1 := hR.out.f0 1

            have hwr : IntKind.i64.wrap ((i : Int) + 1) = (i : Int) + 1 := IntWalk.i64_in _ (by omega)
            go_wp2_with fail
            go_roundg (s.length - (i + 1))
            case measure => omega
            case rel =>
              have hcs : Chg [g] w2 (w2.setCell ⟨g, 1, none⟩ (.int .i64 ((i : Int) + 1))) := (Chg.refl [g] _).setCell (.inl (by simp)) _
              exact ⟨A, n, cc, xs, hR.out.chg hcs (by have := hgl; simp; omega), hV.out.chg hcs (by have := hgl; simp; omega), own_chg hO.out hcs (fun k hk hm => by have := (hO.out.lt k hk).1; have := hgl; simp at hm; omega), hC.out.trans hcs,
                .inl ⟨i + 1, ws, hP.out.put ((i : Int) + 1), hX.out.chg hcs (by intro k hk; simp at hk; have := hgl; omega), hlen.out, hst2.out, by omega, by omega, rfl⟩⟩
          | false =>
            have hst2 := Lib.hid (hst1.trans (if_neg (by rw [hcb]; decide)))
            have hstp : stopB c = false := by simp [stopB, hcb, hce]
            have hin := Lib.hid (fun W => in_any ⟨#[32, 9]⟩ c false (in_blanks c false hcb) W)
            clear hst1
            go_wp2_with fail
            go_quiet ((go_at_call 47; exact (hin.out _).mono (fun e w' h => ⟨h.1, _, h.2.symm⟩)))
            replace hP := Lib.hid (PS.chg hP.out ((Chg.refl [] _).drewN nq) (by simp))
            replace hR := Lib.hid (CS.chg hR.out ((Chg.refl [] _).drewN nq) (by simp))
            replace hV := Lib.hid (CS.chg hV.out ((Chg.refl [] _).drewN nq) (by simp))
            replace hO := Lib.hid (own_drewN hO.out nq)
            replace hC := Lib.hid (hC.out.drewN nq)
            replace hX := Lib.hid (WordsAt.chg hX.out ((Chg.refl [] _).drewN nq) (by simp))
            clear c0 c1 f1 d0 d1 e0 e1 r0 r1 x0 x1
            generalize World.drewN _ _ = w5 at hP hR hV hO hC hX ⊢

            obtain ⟨c0, c1, -, -⟩ := hP.out.c0
            have f1 := hP.out.f0 1
            obtain ⟨d0, d1⟩ := hV.out.c0
            have e0 := hV.out.f0 0
            have e1 := hV.out.f0 1
            obtain ⟨r0, r1⟩ := hR.out.c0
            have x0 := hR.out.f0 0
            have x1 := hR.out.f0 1

            clear hin
            go_wp2_with fail
            replace hP : Hid (PS w5.drew g B i a0 0) := hP.out
            replace hR : Hid (CS w5.drew w.heap.size (.int .i64 0) (.slice none 0 0)) := hR.out
            replace hV : Hid (CS w5.drew (w.heap.size + 1) (.int .i64 i0) (.slice A n cc)) := hV.out
            replace hO := Lib.hid (own_drew hO.out)
            replace hC := Lib.hid hC.out.drew
            replace hX := Lib.hid (WordsAt.chg hX.out (Chg.refl [] _).drew (by simp))
            clear c0 c1 f1 d0 d1 e0 e1 r0 r1 x0 x1

            refine wp_region_any (by kernel_rfl) ?_
            (try (change wpAny _ _ _ _ _ _ _ (World.drew _)))
            refine wpAny_take (i := 0) (v := ?_) rfl (by kernel_rfl) (by kernel_rfl) (by kernel_rfl) (fun _ _ _ h => h) (Or.inl ⟨by kernel_rfl, ?_⟩) ?_
            rotate_left
            · (intro w; go_simp; try with_reducible rfl)
            change wpAny _ _ _ _ _ _ (Act.put _ (some 49) _) _
            (try simp only [Act.put, List.setIfInBounds_toArray, List.set_cons_zero, List.set_cons_succ])
            (generalize World.drew w5 = w6 at hP hR hV hO hC hX ⊢; have d1 := hV.out.c0.2)
            refine wpAny_take (i := 2) (v := ?_) rfl (by kernel_rfl) (by kernel_rfl) (by kernel_rfl) (fun _ _ _ h => h) (Or.inl ⟨by kernel_rfl, ?_⟩) ?_
            rotate_left
            · (intro w; go_simp; try with_reducible rfl)
            change wpAny _ _ _ _ _ _ (Act.put _ (some 51) _) _
            (try simp only [Act.put, List.setIfInBounds_toArray, List.set_cons_zero, List.set_cons_succ])
            refine wpAny_ready (rs := [1, 3]) (by kernel_rfl) (by simp) ?_
            refine AllReady.cons rfl (fun K hK => ?_) ?_
            · go_simp
              (try (refine hK _ _ ?_; clear hK K))
              (try simp only [Act.put, List.setIfInBounds_toArray, List.set_cons_zero, List.set_cons_succ])
              refine wpAny_ready (rs := [3]) (by kernel_rfl) (by simp) ?_
              refine AllReady.cons rfl (fun K hK => ?_) ?_
              · go_simp
                go_wp2_with (first
                    | (refine (hwd.out _ i c hsc hstp hP.out).mono ?_; rintro e w3 ⟨k, A2, n2, c2, rfl, hC3, hcase⟩))
                (try (refine hK _ _ ?_; clear hK K))
                (try simp only [Act.put, List.setIfInBounds_toArray, List.set_cons_zero, List.set_cons_succ])
                (obtain ⟨gk, hM, hgk, hR, hV, hO, hC⟩ := cm_word hsc hstp hst2.out hX.out hO.out hR.out hV.out hgl hC.out hlen.out hni hP.out hC3 (by rw [hB] at hcase; exact hcase); replace hM := Lib.hid hM; replace hR := Lib.hid hR; replace hV := Lib.hid hV; replace hO := Lib.hid hO; replace hC := Lib.hid hC; have d1 := hV.out.c0.2; have d1a : ∀ o : Obj, (w3.alloc o).cell? ⟨w.heap.size + 1, 1, none⟩ = some (Value.slice A n cc) := (fun o => by have h := blk_alloc hV.out o; simp [World.cell?, h]); clear hP hX hC3 hcase)
                refine wpAny_ready (rs := [4]) (by kernel_rfl) (by simp) ?_
                refine AllReady.cons rfl (fun K hK => ?_) ?_
                · go_simp
                  (try (refine hK _ _ ?_; clear hK K))
                  (try simp only [Act.put, List.setIfInBounds_toArray, List.set_cons_zero, List.set_cons_succ])
                  refine wpAny_ready (rs := [5]) (by kernel_rfl) (by simp) ?_
                  refine AllReady.cons rfl (fun K hK => ?_) ?_
                  · (refine step_append_sl rfl (.tmp 50) (.tmp 53) 30 rfl w.heap.size 35 (.agg #[.int .i64 0, .int .i64 0, .slice none 0 0]) 3 40 Try.underlying30 Try.info_word rfl (by decide) _ n xs (hO.out.alloc _) rfl _ 1 [.int .i64 i, .int .i64 k, .slice A2 n2 c2] (sl_wide_new w3 _ 35 3 rfl) rfl (by intro u hu; simp at hu; rcases hu with rfl | rfl | rfl <;> rfl) (n + 1) rfl (by omega) (by decide) (by have := hC.out.size; simp; omega) ?_; intro A' c' w4 hO' hCh hat; obtain ⟨q1, q2, q3, q4, q5, q6, q7⟩ := row_step hV.out hR.out (by omega) (by decide) (by decide) hO.out (by omega) hC.out hO' hCh; replace q3 := Lib.hid q3; replace q4 := Lib.hid q4; replace q5 := Lib.hid q5; replace q6 := Lib.hid q6; replace q7 := Lib.hid q7; replace hat := Lib.hid hat; clear hO' hCh; refine hK _ _ ?_; clear hK K)
                    (try simp only [Act.put, List.setIfInBounds_toArray, List.set_cons_zero, List.set_cons_succ])
                    refine wpAny_take (i := 6) (v := ?_) rfl (by kernel_rfl) (by kernel_rfl) (by kernel_rfl) (fun _ _ _ h => h) (Or.inl ⟨by kernel_rfl, ?_⟩) ?_
                    rotate_left
                    · (intro w; go_simp; try with_reducible rfl)
                    change wpAny _ _ _ _ _ _ (Act.put _ (some 55) _) _
                    (try simp only [Act.put, List.setIfInBounds_toArray, List.set_cons_zero, List.set_cons_succ])
                    refine wpAny_ready (rs := [7]) (by kernel_rfl) (by simp) ?_
                    refine AllReady.cons rfl (fun K hK => ?_) ?_
                    · go_simp
                      (try (refine hK _ _ ?_; clear hK K))
                      (try simp only [Act.put, List.setIfInBounds_toArray, List.set_cons_zero, List.set_cons_succ])
                      refine wpAny_done (by kernel_rfl) ?_ _
                      (try simp only [Act.put, List.setIfInBounds_toArray, List.set_cons_zero, List.set_cons_succ])
                      go_wp2_with fail
                      go_roundg gk
                      case measure => omega
                      case rel =>
                        refine ⟨A', n + 1, c', _, q4.out, q3.out, q5.out, q6.out, hM.out.go q7.out (fun k hk => ?_) ?_⟩
                        · simp at hk
                          rcases hk with hk | rfl
                          · have := (hO.out.lt k hk).1
                            have := hgl
                            exact ⟨by omega, .inr (.inl hk)⟩
                          · have := hgl
                            exact ⟨by omega, .inl (by omega)⟩
                        · rcases hat.out with e | e
                          · exact .inl e
                          · exact .inr (fun q hq => by have := e q hq; simp at this; omega)
                    exact AllReady.nil
                  exact AllReady.nil
                exact AllReady.nil
              exact AllReady.nil
            refine AllReady.cons rfl (fun K hK => ?_) ?_
            · go_simp
              go_wp2_with (first
                  | (refine (hwd.out _ i c hsc hstp hP.out).mono ?_; rintro e w3 ⟨k, A2, n2, c2, rfl, hC3, hcase⟩))
              (try (refine hK _ _ ?_; clear hK K))
              (try simp only [Act.put, List.setIfInBounds_toArray, List.set_cons_zero, List.set_cons_succ])
              (obtain ⟨gk, hM, hgk, hR, hV, hO, hC⟩ := cm_word hsc hstp hst2.out hX.out hO.out hR.out hV.out hgl hC.out hlen.out hni hP.out hC3 (by rw [hB] at hcase; exact hcase); replace hM := Lib.hid hM; replace hR := Lib.hid hR; replace hV := Lib.hid hV; replace hO := Lib.hid hO; replace hC := Lib.hid hC; have d1 := hV.out.c0.2; have d1a : ∀ o : Obj, (w3.alloc o).cell? ⟨w.heap.size + 1, 1, none⟩ = some (Value.slice A n cc) := (fun o => by have h := blk_alloc hV.out o; simp [World.cell?, h]); clear hP hX hC3 hcase)
              refine wpAny_ready (rs := [1, 4]) (by kernel_rfl) (by simp) ?_
              refine AllReady.cons rfl (fun K hK => ?_) ?_
              · go_simp
                (try (refine hK _ _ ?_; clear hK K))
                (try simp only [Act.put, List.setIfInBounds_toArray, List.set_cons_zero, List.set_cons_succ])
                refine wpAny_ready (rs := [4]) (by kernel_rfl) (by simp) ?_
                refine AllReady.cons rfl (fun K hK => ?_) ?_
                · go_simp
                  (try (refine hK _ _ ?_; clear hK K))
                  (try simp only [Act.put, List.setIfInBounds_toArray, List.set_cons_zero, List.set_cons_succ])
                  refine wpAny_ready (rs := [5]) (by kernel_rfl) (by simp) ?_
                  refine AllReady.cons rfl (fun K hK => ?_) ?_
                  · (refine step_append_sl rfl (.tmp 50) (.tmp 53) 30 rfl w.heap.size 35 (.agg #[.int .i64 0, .int .i64 0, .slice none 0 0]) 3 40 Try.underlying30 Try.info_word rfl (by decide) _ n xs (hO.out.alloc _) rfl _ 1 [.int .i64 i, .int .i64 k, .slice A2 n2 c2] (sl_wide_new w3 _ 35 3 rfl) rfl (by intro u hu; simp at hu; rcases hu with rfl | rfl | rfl <;> rfl) (n + 1) rfl (by omega) (by decide) (by have := hC.out.size; simp; omega) ?_; intro A' c' w4 hO' hCh hat; obtain ⟨q1, q2, q3, q4, q5, q6, q7⟩ := row_step hV.out hR.out (by omega) (by decide) (by decide) hO.out (by omega) hC.out hO' hCh; replace q3 := Lib.hid q3; replace q4 := Lib.hid q4; replace q5 := Lib.hid q5; replace q6 := Lib.hid q6; replace q7 := Lib.hid q7; replace hat := Lib.hid hat; clear hO' hCh; refine hK _ _ ?_; clear hK K)
                    (try simp only [Act.put, List.setIfInBounds_toArray, List.set_cons_zero, List.set_cons_succ])
                    refine wpAny_take (i := 6) (v := ?_) rfl (by kernel_rfl) (by kernel_rfl) (by kernel_rfl) (fun _ _ _ h => h) (Or.inl ⟨by kernel_rfl, ?_⟩) ?_
                    rotate_left
                    · (intro w; go_simp; try with_reducible rfl)
                    change wpAny _ _ _ _ _ _ (Act.put _ (some 55) _) _
                    (try simp only [Act.put, List.setIfInBounds_toArray, List.set_cons_zero, List.set_cons_succ])
                    refine wpAny_ready (rs := [7]) (by kernel_rfl) (by simp) ?_
                    refine AllReady.cons rfl (fun K hK => ?_) ?_
                    · go_simp
                      (try (refine hK _ _ ?_; clear hK K))
                      (try simp only [Act.put, List.setIfInBounds_toArray, List.set_cons_zero, List.set_cons_succ])
                      refine wpAny_done (by kernel_rfl) ?_ _
                      (try simp only [Act.put, List.setIfInBounds_toArray, List.set_cons_zero, List.set_cons_succ])
                      go_wp2_with fail
                      go_roundg gk
                      case measure => omega
                      case rel =>
                        refine ⟨A', n + 1, c', _, q4.out, q3.out, q5.out, q6.out, hM.out.go q7.out (fun k hk => ?_) ?_⟩
                        · simp at hk
                          rcases hk with hk | rfl
                          · have := (hO.out.lt k hk).1
                            have := hgl
                            exact ⟨by omega, .inr (.inl hk)⟩
                          · have := hgl
                            exact ⟨by omega, .inl (by omega)⟩
                        · rcases hat.out with e | e
                          · exact .inl e
                          · exact .inr (fun q hq => by have := e q hq; simp at this; omega)
                    exact AllReady.nil
                  exact AllReady.nil
                exact AllReady.nil
              refine AllReady.cons rfl (fun K hK => ?_) ?_
              · go_simp
                (try (refine hK _ _ ?_; clear hK K))
                (try simp only [Act.put, List.setIfInBounds_toArray, List.set_cons_zero, List.set_cons_succ])
                refine wpAny_ready (rs := [1]) (by kernel_rfl) (by simp) ?_
                refine AllReady.cons rfl (fun K hK => ?_) ?_
                · go_simp
                  (try (refine hK _ _ ?_; clear hK K))
                  (try simp only [Act.put, List.setIfInBounds_toArray, List.set_cons_zero, List.set_cons_succ])
                  refine wpAny_ready (rs := [5]) (by kernel_rfl) (by simp) ?_
                  refine AllReady.cons rfl (fun K hK => ?_) ?_
                  · (refine step_append_sl rfl (.tmp 50) (.tmp 53) 30 rfl w.heap.size 35 (.agg #[.int .i64 0, .int .i64 0, .slice none 0 0]) 3 40 Try.underlying30 Try.info_word rfl (by decide) _ n xs (hO.out.alloc _) rfl _ 1 [.int .i64 i, .int .i64 k, .slice A2 n2 c2] (sl_wide_new w3 _ 35 3 rfl) rfl (by intro u hu; simp at hu; rcases hu with rfl | rfl | rfl <;> rfl) (n + 1) rfl (by omega) (by decide) (by have := hC.out.size; simp; omega) ?_; intro A' c' w4 hO' hCh hat; obtain ⟨q1, q2, q3, q4, q5, q6, q7⟩ := row_step hV.out hR.out (by omega) (by decide) (by decide) hO.out (by omega) hC.out hO' hCh; replace q3 := Lib.hid q3; replace q4 := Lib.hid q4; replace q5 := Lib.hid q5; replace q6 := Lib.hid q6; replace q7 := Lib.hid q7; replace hat := Lib.hid hat; clear hO' hCh; refine hK _ _ ?_; clear hK K)
                    (try simp only [Act.put, List.setIfInBounds_toArray, List.set_cons_zero, List.set_cons_succ])
                    refine wpAny_take (i := 6) (v := ?_) rfl (by kernel_rfl) (by kernel_rfl) (by kernel_rfl) (fun _ _ _ h => h) (Or.inl ⟨by kernel_rfl, ?_⟩) ?_
                    rotate_left
                    · (intro w; go_simp; try with_reducible rfl)
                    change wpAny _ _ _ _ _ _ (Act.put _ (some 55) _) _
                    (try simp only [Act.put, List.setIfInBounds_toArray, List.set_cons_zero, List.set_cons_succ])
                    refine wpAny_ready (rs := [7]) (by kernel_rfl) (by simp) ?_
                    refine AllReady.cons rfl (fun K hK => ?_) ?_
                    · go_simp
                      (try (refine hK _ _ ?_; clear hK K))
                      (try simp only [Act.put, List.setIfInBounds_toArray, List.set_cons_zero, List.set_cons_succ])
                      refine wpAny_done (by kernel_rfl) ?_ _
                      (try simp only [Act.put, List.setIfInBounds_toArray, List.set_cons_zero, List.set_cons_succ])
                      go_wp2_with fail
                      go_roundg gk
                      case measure => omega
                      case rel =>
                        refine ⟨A', n + 1, c', _, q4.out, q3.out, q5.out, q6.out, hM.out.go q7.out (fun k hk => ?_) ?_⟩
                        · simp at hk
                          rcases hk with hk | rfl
                          · have := (hO.out.lt k hk).1
                            have := hgl
                            exact ⟨by omega, .inr (.inl hk)⟩
                          · have := hgl
                            exact ⟨by omega, .inl (by omega)⟩
                        · rcases hat.out with e | e
                          · exact .inl e
                          · exact .inr (fun q hq => by have := e q hq; simp at this; omega)
                    exact AllReady.nil
                  exact AllReady.nil
                exact AllReady.nil
              exact AllReady.nil
            exact AllReady.nil
      · have hii : i = s.length := by omega
        subst hii
        have hE := Lib.hid (hcm.trans (command_none (List.getElem?_eq_none (Nat.le_refl _))))
        have hdec : decide ((s.length : Int) < (s.length : Int)) = false := by simp
        obtain ⟨c0, c1, -, -⟩ := hP.out.c0
        have f1 := hP.out.f0 1
        obtain ⟨d0, d1⟩ := hV.out.c0
        have e0 := hV.out.f0 0
        have e1 := hV.out.f0 1
        obtain ⟨r0, r1⟩ := hR.out.c0
        have x0 := hR.out.f0 0
        have x1 := hR.out.f0 1

        go_wp2_with fail
        go_quiet (fail)
        replace hP := Lib.hid (PS.chg hP.out ((Chg.refl [] _).drewN nq) (by simp))
        replace hR := Lib.hid (CS.chg hR.out ((Chg.refl [] _).drewN nq) (by simp))
        replace hV := Lib.hid (CS.chg hV.out ((Chg.refl [] _).drewN nq) (by simp))
        replace hO := Lib.hid (own_drewN hO.out nq)
        replace hC := Lib.hid (hC.out.drewN nq)
        replace hX := Lib.hid (WordsAt.chg hX.out ((Chg.refl [] _).drewN nq) (by simp))
        clear c0 c1 f1 d0 d1 e0 e1 r0 r1 x0 x1
        generalize World.drewN _ _ = w1 at hP hR hV hO hC hX ⊢

        obtain ⟨c0, c1, -, -⟩ := hP.out.c0
        have f1 := hP.out.f0 1
        obtain ⟨d0, d1⟩ := hV.out.c0
        have e0 := hV.out.f0 0
        have e1 := hV.out.f0 1
        obtain ⟨r0, r1⟩ := hR.out.c0
        have x0 := hR.out.f0 0
        have x1 := hR.out.f0 1

        go_wp2_with fail
        clear c0 c1 f1 d0 d1 e0 e1 r0 r1 x0 x1
        have hF := Lib.hid (show CS _ w.heap.size (.int .i64 i0) (.slice A n cc) from blk_set (blk_set hR.out 0 (.int .i64 i0)) 1 (.slice A n cc))
        have h3 := fun (W : World) => (((Chg.refl [w.heap.size] W).setCell (p := ⟨w.heap.size, 0, none⟩) (.inl (by simp)) (.int .i64 i0)).setCell (p := ⟨w.heap.size, 1, none⟩) (.inl (by simp)) (.slice A n cc))
        refine bodyPost_ret (v := .agg #[.int .i64 i0, .slice A n cc]) ?_ rfl ⟨A, n, cc, rfl, (hC.out.setCell (.inr (Nat.le_refl _)) _).setCell (.inr (Nat.le_refl _)) _, ?_⟩
        · exact results_cell_row rfl _ _ _ 32 _ (0, 0) _ rfl hF.out Try.underlying32 rfl (by kernel_rfl)
        · exact .inl ⟨_, _, xs, hE.out, PS.chg hP.out (h3 _) (by have := hgl; simp; omega), hlen.out.symm, (own_chg hO.out (h3 _) (fun k hk hm => own_not hO.out hR.out (by decide) (by simp at hm; rw [hm] at hk; exact hk))), (hX.out.chg (h3 _) (by intro k hk; simp at hk; omega)).less (by omega), fun q hq => (hO.out.lt q hq).1⟩

    · have hE := Lib.hid hcm
      replace hP := Lib.hid hP
      replace hq0 := Lib.hid hq0
      have hdec : decide ((s.length : Int) < (s.length : Int)) = false := by simp
      obtain ⟨c0, c1, -, -⟩ := hP.out.c0
      have f1 := hP.out.f0 1
      obtain ⟨d0, d1⟩ := hV.out.c0
      have e0 := hV.out.f0 0
      have e1 := hV.out.f0 1
      obtain ⟨r0, r1⟩ := hR.out.c0
      have x0 := hR.out.f0 0
      have x1 := hR.out.f0 1

      go_wp2_with fail
      go_quiet (fail)
      replace hP := Lib.hid (PS.chg hP.out ((Chg.refl [] _).drewN nq) (by simp))
      replace hR := Lib.hid (CS.chg hR.out ((Chg.refl [] _).drewN nq) (by simp))
      replace hV := Lib.hid (CS.chg hV.out ((Chg.refl [] _).drewN nq) (by simp))
      replace hO := Lib.hid (own_drewN hO.out nq)
      replace hC := Lib.hid (hC.out.drewN nq)
      clear c0 c1 f1 d0 d1 e0 e1 r0 r1 x0 x1
      generalize World.drewN _ _ = w1 at hP hR hV hO hC ⊢

      obtain ⟨c0, c1, -, -⟩ := hP.out.c0
      have f1 := hP.out.f0 1
      obtain ⟨d0, d1⟩ := hV.out.c0
      have e0 := hV.out.f0 0
      have e1 := hV.out.f0 1
      obtain ⟨r0, r1⟩ := hR.out.c0
      have x0 := hR.out.f0 0
      have x1 := hR.out.f0 1

      go_wp2_with fail
      clear c0 c1 f1 d0 d1 e0 e1 r0 r1 x0 x1
      have hF := Lib.hid (show CS _ w.heap.size (.int .i64 i0) (.slice A n cc) from blk_set (blk_set hR.out 0 (.int .i64 i0)) 1 (.slice A n cc))
      have h3 := fun (W : World) => (((Chg.refl [w.heap.size] W).setCell (p := ⟨w.heap.size, 0, none⟩) (.inl (by simp)) (.int .i64 i0)).setCell (p := ⟨w.heap.size, 1, none⟩) (.inl (by simp)) (.slice A n cc))
      refine bodyPost_ret (v := .agg #[.int .i64 i0, .slice A n cc]) ?_ rfl ⟨A, n, cc, rfl, (hC.out.setCell (.inr (Nat.le_refl _)) _).setCell (.inr (Nat.le_refl _)) _, ?_⟩
      · exact results_cell_row rfl _ _ _ 32 _ (0, 0) _ rfl hF.out Try.underlying32 rfl (by kernel_rfl)
      · exact .inr ⟨_, _, hE.out, PS.chg hP.out (h3 _) (by have := hgl; simp; omega), hq0.out⟩

end Pl
end Go.Proofs.Ytnjjbiialpmhbaa
namespace Go.Proofs.Ytnjjbiialpmhbaa
namespace Pl
open Go.RowKit Tcl
/-- What `Parse` tells. -/
def PaRes (w : World) (s : List UInt8) (e : Ending) (w' : World) : Prop :=
  Chg [] w w' ∧ ((∃ A n c xs cs, e = .returned (.tuple #[.slice A n c, .int .i64 0, .int .i64 0]) ∧ parse s = .ok cs ∧ n = cs.length ∧ w'.ownsRow w.heap.size 32 2 (.slice A n c) n xs ∧ CmdsAt w' w.heap.size (Value.slice A n c).ownBlock xs cs ∧ (∀ q, (Value.slice A n c).ownBlock = some q → w.heap.size ≤ q) ∧ n ≤ s.length)
    ∨ (∃ p q : Nat, e = .returned (.tuple #[.slice none 0 0, .int .i64 p, .int .i64 q]) ∧ parse s = .error (p, q) ∧ q ≠ 0))
/-- What holds behind a command. -/
theorem pa_cmd {w w1 w3 : World} {g : Nat} {s : List UInt8} {B : ByteArray} {i : Nat} {c : UInt8} {A A2 : Option Addr} {n cc n2 c2 : Nat} {xs : List Value} {cs : List Cmd}
    (hB : bstr s = B) (hsc : s[i]? = some c) (hstp : stopB c = false) (hst : parseGo s 0 [] = match command s i [] with | .error b => .error b | .ok (ws, j) => if i < j then parseGo s j (cs ++ [⟨i, ws⟩]) else .error (0, 0))
    (hX : CmdsAt w1 (w.heap.size + 1) (Value.slice A n cc).ownBlock xs cs) (hO : w1.ownsRow w.heap.size 32 2 (.slice A n cc) n xs) (hg : g = w.heap.size) (hlen : cs.length = n) (hni : n ≤ i) (hP : PS w1 g B i 0 0) (hC3 : Chg [g] w1 w3)
    (hcase : (∃ ws j ys, command s i [] = .ok (ws, j) ∧ PS w3 g (bstr s) j 0 0 ∧ n2 = ws.length ∧ w3.ownsRow w1.heap.size 35 3 (.slice A2 n2 c2) n2 ys ∧ WordsAt w3 w1.heap.size (Value.slice A2 n2 c2).ownBlock ys ws ∧ ∀ q, (Value.slice A2 n2 c2).ownBlock = some q → w1.heap.size ≤ q)
      ∨ (∃ p q : Nat, command s i [] = .error (p, q) ∧ PS w3 g (bstr s) s.length p q ∧ q ≠ 0)) :
    ∃ gk, PaMid w w3 g s B (Value.slice A n cc).ownBlock xs n [.int .i64 i, .slice A2 n2 c2] gk ∧ gk < s.length - i ∧ w3.ownsRow w.heap.size 32 2 (.slice A n cc) n xs := by
  have hil := lt_of_some hsc
  have hend : endB c = false := by simp [stopB] at hstp; exact hstp.2
  have hgw : g < w1.heap.size := lt_heap hP
  have hgr : (Value.slice A n cc).ownBlock ≠ some g := own_not hO hP (by decide)
  have h1 : ∀ q, (Value.slice A n cc).ownBlock = some q → q ∉ [g] := fun q hq hm => by simp at hm; subst hm; exact hgr hq
  suffices h : ∃ gk, PaMid w w3 g s B (Value.slice A n cc).ownBlock xs n [.int .i64 i, .slice A2 n2 c2] gk ∧ gk < s.length - i by
    obtain ⟨gk, h2, h3⟩ := h
    exact ⟨gk, h2, h3, own_chg hO hC3 h1⟩
  rw [hB] at hcase
  rcases hcase with ⟨ws, j, ys, hw, hPj, rfl, h3, h4, h5⟩ | ⟨p, q, hw, hPj, hq⟩
  · have hb := command_bound s (s.length - i) i [] ws j (Nat.le_refl _) (by omega) hw
    have hm := command_more hsc hend hw
    rw [hw] at hst
    simp only [if_pos hm] at hst
    obtain ⟨hi0, hi1, hX0⟩ := hX
    exact ⟨s.length - j, .inl ⟨j, cs, ⟨i, ws⟩, A2, c2, ys, w1.heap.size, hPj, (hX0.mono (Nat.le_refl _) hi1).chg hC3 (fun q k1 k2 k3 hk => by simp at hk; omega), hlen, hst, hb.2.1, by omega, rfl, rfl, h3, h4, fun q hq => (hO.lt q hq).2, hC3.size⟩, by omega⟩
  · rw [hw] at hst
    exact ⟨0, .inr ⟨p, q, hPj, hst, hq, rfl⟩, by omega⟩
set_option maxRecDepth 100000 in
set_option maxHeartbeats 16000000 in
theorem parse_any (w : World) (s : List UInt8) (hs63 : s.length ≤ 4611686018427387904) : Calls Try.prog 35 #[.string (bstr s)] w (PaRes w s) := by
  have hsz : (bstr s).size = s.length := rfl
  obtain ⟨B, hB⟩ : ∃ B, bstr s = B := ⟨_, rfl⟩
  have hby : ∀ i (h : i < B.size), s[i]? = some (B[i]'h) := by rw [← hB]; exact fun i h => byte_of h
  unfold PaRes
  by_cases hs : 16777216 < s.length
  · have hE : Hid (parse s = .error (0, 6)) := Lib.hid (by unfold parse; rw [if_pos hs])
    rw [hB] at hsz ⊢
    have hdec : decide ((16777216 : Int) < (s.length : Int)) = true := by simp; omega
    go_enter Try.func35, Try.ntmps35
    go_wp2_with fail
    go_ret3
    exact ⟨Chg.refl _ _, .inr ⟨0, 6, rfl, hE.out, by decide⟩⟩
  have hE0 : Hid (parse s = parseGo s 0 []) := Lib.hid (by unfold parse; rw [if_neg hs])
  have hcmd := Lib.hid (fun W g (i : Nat) (hi : i ≤ s.length) (hP : PS W g (bstr s) i 0 0) => command_any W g s i 0 (by omega) hi hP)
  have hln := Lib.hid (fun i W => line_n s i W)
  rw [hB] at hsz hcmd hln ⊢
  rw [hsz] at hln
  replace hby := Lib.hid hby
  have hdec : decide ((16777216 : Int) < (s.length : Int)) = false := by simp; omega
  have hP : Hid (PS (w.alloc (.cells #[.string B, .int .i64 0, .int .i64 0, .int .i64 0] 106)) w.heap.size B (0 : Nat) 0 0) := Lib.hid (blk_new _ _)
  have hC : Hid (Chg [] w (w.alloc (.cells #[.string B, .int .i64 0, .int .i64 0, .int .i64 0] 106))) := Lib.hid ((Chg.refl [] w).alloc _)
  obtain ⟨g, hg⟩ : ∃ g, w.heap.size = g := ⟨_, rfl⟩
  go_enter Try.func35, Try.ntmps35
  go_wp2_with fail
  rw [hg] at hP
  generalize w.alloc _ = w1 at hP hC ⊢
  go_loopg [6] s.length (fun gk v6 wr => ∃ (A : Option Addr) (n cc : Nat) (xs : List Value), v6 = .slice A n cc ∧ wr.ownsRow w.heap.size 32 2 (.slice A n cc) n xs ∧ Chg [] w wr ∧ PaGo w wr g s B (Value.slice A n cc).ownBlock xs n gk)
  case atStart => exact ⟨none, 0, 0, [], rfl, World.ownsRow_nil _ _ _ _, hC.out, .inl ⟨0, [], hP.out, CmdsAt.nil _ _ _ (by have := lt_heap hP.out; omega), rfl, rfl, by omega, by omega, rfl⟩⟩
  case round =>
    clear hP hC
    obtain ⟨A, n, cc, xs, rfl, hO, hC, hgo⟩ := hrel
    replace hO := Lib.hid hO
    replace hC := Lib.hid hC
    rcases hgo with ⟨i, cs, hP, hX, hlen, hpg, hil, hni, rfl⟩ | ⟨p, q, hP, hpg, hq0, rfl⟩
    · replace hP := Lib.hid hP
      replace hX := Lib.hid hX
      replace hlen := Lib.hid hlen
      obtain ⟨c0, c1, c2, c3⟩ := hP.out.c0
      have f1 := hP.out.f0 1

      by_cases hlt : i < s.length
      · have hlB : i < B.size := by omega
        obtain ⟨c, hc⟩ : ∃ c, B[i]'hlB = c := ⟨_, rfl⟩
        have hsc : s[i]? = some c := by rw [hby.out i hlB, hc]
        have hstep := Lib.hid (hpg.trans (parse_some hsc))
        clear hpg
        cases hcs : stopB c with
        | true =>
          have hst2 := Lib.hid (hstep.out.trans (if_pos hcs))
          have hin := Lib.hid (fun W => in_any ⟨#[32, 9, 10, 59]⟩ c true (in_stops c true hcs) W)
          have hwr : IntKind.i64.wrap ((i : Int) + 1) = (i : Int) + 1 := IntWalk.i64_in _ (by omega)
          clear hstep
          go_wp2_with fail
          refine (hin.out _).mono ?_
          rintro e w' ⟨rfl, rfl⟩
          go_wp2_with fail
          go_roundg (s.length - (i + 1))
          case measure => omega
          case rel =>
            have hcs : Chg [g] wr (wr.setCell ⟨g, 1, none⟩ (.int .i64 ((i : Int) + 1))) := (Chg.refl [g] _).setCell (.inl (by simp)) _
            exact ⟨A, n, cc, xs, rfl, own_chg hO.out hcs (fun k hk hm => own_not hO.out hP.out (by decide) (by simp at hm; rw [hm] at hk; exact hk)), hC.out.then hcs (by intro x hx; simp at hx; omega),
              .inl ⟨i + 1, cs, hP.out.put ((i : Int) + 1), hX.out.chg hcs (by intro k hk; simp at hk; omega), hlen.out, hst2.out, by omega, by omega, rfl⟩⟩
        | false =>
          have hst1 := hstep.out.trans (if_neg (by rw [hcs]; decide))
          have hin := Lib.hid (fun W => in_any ⟨#[32, 9, 10, 59]⟩ c false (in_stops c false hcs) W)
          clear hstep
          by_cases q35 : c = 35
          · subst q35
            replace hst1 := hst1.trans (if_pos rfl)
            have hpos : 0 < lineLen (s.drop i) := lineLen_pos (c := 35) (by rw [List.getElem?_drop]; exact hsc) (by decide)
            replace hst1 := hst1.trans (if_pos hpos)
            have hle : lineLen (s.drop i) ≤ s.length - i := by have := lineLen_le (s.drop i); rw [List.length_drop] at this; exact this
            have hn1 := hln.out i
            obtain ⟨N, hN⟩ : ∃ N, lineLen (s.drop i) = N := ⟨_, rfl⟩
            rw [hN] at hst1 hpos hle hn1
            clear hN
            obtain ⟨v, hv⟩ : ∃ v : Int, (if N = s.length - i then -1 else (N : Int)) = v := ⟨_, rfl⟩
            rw [hv] at hn1
            have hv2 : (v = -1 ∧ N = s.length - i) ∨ v = (N : Int) := by
              rw [← hv]; split
              · rename_i hq; exact .inl ⟨rfl, hq⟩
              · exact .inr rfl
            clear hv
            replace hst1 := Lib.hid hst1
            replace hv2 := Lib.hid hv2
            replace hn1 := Lib.hid hn1
            have hwn : IntKind.i64.wrap ((i : Int) + (N : Int)) = (i : Int) + (N : Int) := IntWalk.i64_in _ (by omega)
            have hw1 : IntKind.i64.wrap ((s.length : Int) - (i : Int)) = (s.length : Int) - (i : Int) := IntWalk.i64_in _ (by omega)
            have hw2 : IntKind.i64.wrap ((i : Int) + ((s.length : Int) - (i : Int))) = (i : Int) + ((s.length : Int) - (i : Int)) := IntWalk.i64_in _ (by omega)
            go_wp2_with fail
            refine (hin.out _).mono ?_
            rintro e w' ⟨rfl, rfl⟩
            go_wp2_with fail
            refine (hn1.out _).mono ?_
            rintro e w' ⟨rfl, rfl⟩
            clear hn1 hin
            rcases hv2.out with ⟨rfl, hNe⟩ | rfl
            · go_wp2_with fail
              go_roundg (s.length - (i + N))
              case measure => omega
              case rel =>
                have hcs : Chg [g] wr (wr.setCell ⟨g, 1, none⟩ (.int .i64 ((i : Int) + ((s.length : Int) - (i : Int))))) := (Chg.refl [g] _).setCell (.inl (by simp)) _
                refine ⟨A, n, cc, xs, rfl, own_chg hO.out hcs (fun k hk hm => own_not hO.out hP.out (by decide) (by simp at hm; rw [hm] at hk; exact hk)), hC.out.then hcs (by intro x hx; simp at hx; omega),
                  .inl ⟨i + N, cs, ?_, hX.out.chg hcs (by intro k hk; simp at hk; omega), hlen.out, hst1.out, by omega, by omega, rfl⟩⟩
                have := hP.out.put ((i : Int) + ((s.length : Int) - (i : Int)))
                rw [show ((i + N : Nat) : Int) = (i : Int) + ((s.length : Int) - (i : Int)) by omega]
                exact this
            · have hn0 : ¬ (N : Int) < 0 := by omega
              go_wp2_with fail
              go_roundg (s.length - (i + N))
              case measure => omega
              case rel =>
                have hcs : Chg [g] wr (wr.setCell ⟨g, 1, none⟩ (.int .i64 ((i : Int) + (N : Int)))) := (Chg.refl [g] _).setCell (.inl (by simp)) _
                exact ⟨A, n, cc, xs, rfl, own_chg hO.out hcs (fun k hk hm => own_not hO.out hP.out (by decide) (by simp at hm; rw [hm] at hk; exact hk)), hC.out.then hcs (by intro x hx; simp at hx; omega),
                  .inl ⟨i + N, cs, hP.out.put ((i : Int) + (N : Int)), hX.out.chg hcs (by intro k hk; simp at hk; omega), hlen.out, hst1.out, by omega, by omega, rfl⟩⟩
          · have b35 := u8n (n := 35) q35
            have hst2 := Lib.hid (hst1.trans (if_neg q35))
            clear hst1
            go_wp2_with fail
            refine (hin.out _).mono ?_
            rintro e w' ⟨rfl, rfl⟩
            clear hin
            go_wp2_with fail
            refine (hcmd.out _ g i (by omega) hP.out).mono ?_
            rintro e w3 ⟨A2, n2, m2, rfl, hC3, hcase⟩
            obtain ⟨gk, hM, hgk, hO3⟩ := pa_cmd hB hsc hcs hst2.out hX.out hO.out hg.symm hlen.out hni hP.out hC3 hcase
            replace hM := Lib.hid hM
            replace hO := Lib.hid hO3
            replace hC := Lib.hid (hC.out.then hC3 (by intro x hx; simp at hx; omega))
            clear hP hX hC3 hcase hO3 c0 c1 c2 c3 f1
            go_wp2_with (at_builtin; refine wpList_append_sl rfl (.tmp 28) (.tmp 31) 27 rfl w.heap.size 32 (.agg #[.int .i64 0, .slice none 0 0]) 2 32 Try.underlying27 Try.info_command rfl (by decide) _ n xs rfl (hO.out.alloc _) _ 1 [.int .i64 i, .slice A2 n2 m2] rfl (sl_wide_new w3 _ 32 2 rfl) (by intro u hu; simp at hu; rcases hu with rfl | rfl <;> rfl) (n + 1) rfl (by omega) (by decide) (by have := hC.out.size; simp; omega) ?_)
            intro A' c' w4 hO' hCh hat
            replace hO' := Lib.hid (show w4.ownsRow w.heap.size 32 2 _ _ _ by rw [hg]; exact hO')
            replace hCh := Lib.hid (((Chg.refl _ w3).alloc _).trans hCh)
            replace hat := Lib.hid hat
            go_wp2_with fail
            go_roundg gk
            case measure => omega
            case rel =>
              refine ⟨A', n + 1, c', _, rfl, hO'.out, hC.out.then hCh.out (fun q hq => .inr (hO.out.lt q (by simpa using hq)).1), hM.out.go hCh.out (fun k hk => ?_) ?_⟩
              · simp at hk
                refine ⟨fun e => ?_, .inr (.inl hk)⟩
                subst e
                rcases hM.out with ⟨j, cs', cm, A5, c5, ys, hi5, h1, -⟩ | ⟨p, q, h1, -⟩ <;> exact own_not hO.out h1 (by decide) hk
              · rcases hat.out with e | e
                · exact .inl e
                · exact .inr (fun q hq => by have := e q hq; (try simp at this); omega)
      · have hii : i = s.length := by omega
        subst hii
        have hE := Lib.hid (hpg.trans (parse_none (List.getElem?_eq_none (Nat.le_refl _))))
        have hdec : decide ((s.length : Int) < (s.length : Int)) = false := by simp
        go_wp2_with fail
        (try rw [Exit.noGoto_ret])
        go_ret3
        exact ⟨hC.out, .inl ⟨A, n, cc, xs, cs, rfl, hE0.out.trans hE.out, hlen.out.symm, hO.out, hX.out.less (by omega), fun q hq => (hO.out.lt q hq).1, hni⟩⟩
    · have hE := Lib.hid hpg
      replace hP := Lib.hid hP
      have hdec : decide ((s.length : Int) < (s.length : Int)) = false := by simp
      have hqq : ((q : Int) == 0) = false := by rw [beq_eq_false_iff_ne]; omega
      obtain ⟨c0, c1, c2, c3⟩ := hP.out.c0
      have f1 := hP.out.f0 1

      replace hq0 := Lib.hid hq0
      go_wp2_with fail
      go_quiet (fail)
      go_wp2_with fail
      (try rw [Exit.noGoto_ret])
      go_ret3
      exact ⟨hC.out.drewN _, .inr ⟨p, q, rfl, hE0.out.trans hE.out, hq0.out⟩⟩

end Pl
end Go.Proofs.Ytnjjbiialpmhbaa
namespace Go.Proofs.Ytnjjbiialpmhbaa
namespace Pl
open Go.RowKit Tcl Plan
theorem own_some {w : World} {base : Nat} {e : TypeId} {size n c : Nat} {A : Option Addr} {xs : List Value} (h : w.ownsRow base e size (.slice A n c) n xs) (hn : 0 < n) : ∃ g, A = some ⟨g, 0, none⟩ := by
  rcases h.2 with ⟨-, h0⟩ | ⟨g, cap, cur, h1, -⟩
  · omega
  · cases h1; exact ⟨g, rfl⟩
theorem own_cell {w : World} {base : Nat} {e : TypeId} {size n c g : Nat} {xs : List Value} (h : w.ownsRow base e size (.slice (some ⟨g, 0, none⟩) n c) n xs) {j : Nat} {u : Value} (hj : xs[j]? = some u) :
    w.cell? ⟨g, j, none⟩ = some u ∧ w.frozen? ⟨g, j, none⟩ = false := by
  obtain ⟨h0, h1⟩ := h
  rcases h1 with ⟨h1, -⟩ | ⟨g', cap, cur, h1, h2, h3, h4, h5, h6, h7⟩
  · cases h1
  · cases h1
    have hjl := (List.getElem?_eq_some_iff.1 hj).1
    rw [← h7, List.getElem?_take_of_lt (by omega)] at hj
    refine ⟨?_, by simp [World.frozen?, h3]⟩
    simp only [World.cell?, h3]
    simpa using hj
theorem own_put {w : World} {base : Nat} {e : TypeId} {size n c g : Nat} {xs : List Value} (h : w.ownsRow base e size (.slice (some ⟨g, 0, none⟩) n c) n xs) (j : Nat) (u : Value) :
    (w.setCell ⟨g, j, none⟩ u).ownsRow base e size (.slice (some ⟨g, 0, none⟩) n c) n (xs.set j u) := by
  obtain ⟨h0, h1⟩ := h
  refine ⟨by rw [List.length_set]; exact h0, ?_⟩
  rcases h1 with ⟨h1, -⟩ | ⟨g', cap, cur, h1, h2, h3, h4, h5, h6, h7⟩
  · cases h1
  · cases h1
    refine .inr ⟨g, c, cur.setIfInBounds j u, rfl, h2, blk_set h3 j u, h4, h5, by simp [h6], ?_⟩
    rw [Array.toList_setIfInBounds, ← h7, List.take_set]
/-- The first `i` commands are turned. -/
def OutI (w0 wr : World) (b base : Nat) (A : Option Addr) (n c : Nat) (cs : List Cmd) (i : Nat) : Prop :=
  ∃ mid hi xs1 xs2, wr.ownsRow w0.heap.size 32 2 (.slice A n c) n (xs1 ++ xs2) ∧ cmdsO wr (Value.slice A n c).ownBlock base mid xs1 ((cs.take i).map (shiftC b)) ∧ cmdsO wr (Value.slice A n c).ownBlock mid hi xs2 (cs.drop i) ∧
    hi ≤ wr.heap.size ∧ w0.heap.size ≤ base ∧ Chg [] w0 wr
/-- .. and the first `k` words of the next one, and its place. -/
def Mid (w0 wr : World) (b base : Nat) (A : Option Addr) (n c : Nat) (cs : List Cmd) (i : Nat) (cm : Cmd) (Aw : Option Addr) (cw k : Nat) : Prop :=
  ∃ lo mid hi xs1 xs2 ys, wr.ownsRow w0.heap.size 32 2 (.slice A n c) n (xs1 ++ [.int .i64 ((cm.at_ + b : Nat) : Int), .slice Aw cm.words.length cw] ++ xs2) ∧ cmdsO wr (Value.slice A n c).ownBlock base lo xs1 ((cs.take i).map (shiftC b)) ∧
    cmdsO wr (Value.slice A n c).ownBlock mid hi xs2 (cs.drop (i + 1)) ∧ lo ≤ mid ∧ wr.ownsRow lo 35 3 (.slice Aw cm.words.length cw) cm.words.length ys ∧
    (∀ q, (Value.slice Aw cm.words.length cw).ownBlock = some q → q < mid ∧ (Value.slice A n c).ownBlock ≠ some q) ∧
    wordsC wr (fun q => lo ≤ q ∧ q < mid ∧ (Value.slice A n c).ownBlock ≠ some q ∧ (Value.slice Aw cm.words.length cw).ownBlock ≠ some q) ys ((cm.words.take k).map (shiftW b) ++ cm.words.drop k) ∧
    hi ≤ wr.heap.size ∧ w0.heap.size ≤ base ∧ Chg [] w0 wr
theorem OutI.start {w0 wr : World} {base : Nat} {A : Option Addr} {n c : Nat} {cs : List Cmd} {xs : List Value} (b : Nat) (hO : wr.ownsRow w0.heap.size 32 2 (.slice A n c) n xs) (hX : CmdsAt wr base (Value.slice A n c).ownBlock xs cs) (hb : w0.heap.size ≤ base) (hC : Chg [] w0 wr) :
    OutI w0 wr b base A n c cs 0 := by
  obtain ⟨hi, h1, h2⟩ := hX
  exact ⟨base, hi, [], xs, hO, ⟨rfl, Nat.le_refl _⟩, h2, h1, hb, hC⟩
theorem drop_get {α : Type} {l : List α} {i : Nat} {a : α} (h : l[i]? = some a) : l.drop i = a :: l.drop (i + 1) := by
  obtain ⟨hl, rfl⟩ := List.getElem?_eq_some_iff.1 h
  exact List.drop_eq_getElem_cons hl
theorem take_get {α : Type} {l : List α} {i : Nat} {a : α} (h : l[i]? = some a) : l.take (i + 1) = l.take i ++ [a] := by rw [List.take_add_one, h]; rfl
theorem OutI.open_ {w0 wr : World} {b base : Nat} {A : Option Addr} {n c : Nat} {cs : List Cmd} {i : Nat} {cm : Cmd} (h : OutI w0 wr b base A n c cs i) (hi : cs[i]? = some cm) :
    ∃ gl Aw cw, A = some ⟨gl, 0, none⟩ ∧ wr.cell? ⟨gl, i * 2, none⟩ = some (.int .i64 cm.at_) ∧ wr.cell? ⟨gl, i * 2 + 1, none⟩ = some (.slice Aw cm.words.length cw) ∧ wr.frozen? ⟨gl, i * 2, none⟩ = false ∧
      Mid w0 (wr.setCell ⟨gl, i * 2, none⟩ (.int .i64 ((cm.at_ + b : Nat) : Int))) b base A n c cs i cm Aw cw 0 := by
  obtain ⟨mid, hh, xs1, xs2, h1, h2, h3, h4, h5, h6⟩ := h
  rw [drop_get hi] at h3
  obtain ⟨m, p, t, h7, rfl, h8, h9⟩ := h3
  obtain ⟨Aw, cw, ys, rfl, k1, k2, k3⟩ := h8
  have hil := (List.getElem?_eq_some_iff.1 hi).1
  have l1 : xs1.length = i * 2 := by rw [h2.len, List.length_map, List.length_take]; omega
  have hn0 : 0 < n := by have := h1.1; simp at this; omega
  obtain ⟨gl, rfl⟩ := own_some h1 hn0
  have c0 := own_cell h1 (j := i * 2) (u := .int .i64 cm.at_) (by rw [List.getElem?_append_right (by omega), l1]; simp)
  have c1 := own_cell h1 (j := i * 2 + 1) (u := .slice Aw cm.words.length cw) (by rw [List.getElem?_append_right (by omega), l1]; simp)
  have hlow : w0.heap.size ≤ gl := (h1.lt gl rfl).1
  have hS := (Chg.refl [gl] wr).setCell (p := ⟨gl, i * 2, none⟩) (.inl (by simp)) (.int .i64 ((cm.at_ + b : Nat) : Int))
  have hne : ∀ q, (Value.slice (some ⟨gl, 0, none⟩) n c).ownBlock ≠ some q → q ∉ [gl] := fun q hq hm => by simp at hm; subst hm; exact hq rfl
  refine ⟨gl, Aw, cw, rfl, c0.1, c1.1, c0.2, mid, m, hh, xs1, t, ys, ?_, h2.chg hS (fun q _ _ hq => hne q hq), h9.chg hS (fun q _ _ hq => hne q hq), h7, own_chg k1 hS (fun q hq => hne q (k2 q hq).2), k2,
    wordsC.chg hS (fun q hq _ => hne q hq.2.2.1) (by simpa using k3), by simpa using h4, h5, h6.setCell (.inr hlow) _⟩
  have := own_put h1 (i * 2) (.int .i64 ((cm.at_ + b : Nat) : Int))
  rw [List.set_append_right _ _ (by omega), l1] at this
  simpa using this
theorem Mid.cell {w0 wr : World} {b base : Nat} {A : Option Addr} {n c : Nat} {cs : List Cmd} {i : Nat} {cm : Cmd} {Aw : Option Addr} {cw k : Nat} (h : Mid w0 wr b base A n c cs i cm Aw cw k) (hi : cs[i]? = some cm) :
    ∃ gl, A = some ⟨gl, 0, none⟩ ∧ wr.cell? ⟨gl, i * 2 + 1, none⟩ = some (.slice Aw cm.words.length cw) := by
  obtain ⟨lo, mid, hh, xs1, xs2, ys, h1, h2, -⟩ := h
  have hil := (List.getElem?_eq_some_iff.1 hi).1
  have l1 : xs1.length = i * 2 := by rw [h2.len, List.length_map, List.length_take]; omega
  have hn0 : 0 < n := by have := h1.1; simp at this; omega
  obtain ⟨gl, rfl⟩ := own_some h1 hn0
  exact ⟨gl, rfl, (own_cell h1 (j := i * 2 + 1) (by rw [List.append_assoc, List.getElem?_append_right (by omega), l1]; simp)).1⟩
theorem Mid.word {w0 wr : World} {b base : Nat} {A : Option Addr} {n c : Nat} {cs : List Cmd} {i : Nat} {cm : Cmd} {Aw : Option Addr} {cw k : Nat} {wd : Word} (h : Mid w0 wr b base A n c cs i cm Aw cw k) (hk : cm.words[k]? = some wd) :
    ∃ g, Aw = some ⟨g, 0, none⟩ ∧ wr.cell? ⟨g, k * 3, none⟩ = some (.int .i64 wd.at_) ∧ wr.frozen? ⟨g, k * 3, none⟩ = false ∧
      Mid w0 (wr.setCell ⟨g, k * 3, none⟩ (.int .i64 ((wd.at_ + b : Nat) : Int))) b base A n c cs i cm Aw cw (k + 1) := by
  obtain ⟨lo, mid, hh, xs1, xs2, ys, h1, h2, h3, h4, h5, h6, h7, h8, h9, h10⟩ := h
  have hkl := (List.getElem?_eq_some_iff.1 hk).1
  obtain ⟨g, rfl⟩ := own_some h5 (by omega)
  have hwk : ((cm.words.take k).map (shiftW b) ++ cm.words.drop k)[k]? = some wd := by
    rw [List.getElem?_append_right (by simp; omega), List.length_map, List.length_take, Nat.min_eq_left (by omega), Nat.sub_self, drop_get hk]; rfl
  obtain ⟨A', c', e1, -⟩ := wordsC.get h7 hwk
  have c0 := own_cell h5 e1
  have hlo : lo ≤ g := (h5.lt g rfl).1
  have hmid := (h6 g rfl).1
  have hS := (Chg.refl [g] wr).setCell (p := ⟨g, k * 3, none⟩) (.inl (by simp)) (.int .i64 ((wd.at_ + b : Nat) : Int))
  have l2 := h2.le
  refine ⟨g, rfl, c0.1, c0.2, lo, mid, hh, xs1, xs2, _, own_chg h1 hS (fun q hq hm => by simp at hm; subst hm; exact (h6 q rfl).2 hq), h2.chg hS (fun q _ hq _ hm => by simp at hm; omega), h3.chg hS (fun q hq _ _ hm => by simp at hm; omega), h4,
    own_put h5 (k * 3) (.int .i64 ((wd.at_ + b : Nat) : Int)), h6, ?_, by simpa using h8, h9, h10.setCell (.inr (show w0.heap.size ≤ g by omega)) _⟩
  have ht := wordsC.turn b (wordsC.chg hS (fun q hq _ hm => by simp at hm; subst hm; exact hq.2.2.2 rfl) h7) hwk
  have e : ((cm.words.take k).map (shiftW b) ++ cm.words.drop k).set k (shiftW b wd) = (cm.words.take (k + 1)).map (shiftW b) ++ cm.words.drop (k + 1) := by
    rw [List.set_append_right _ _ (by simp; omega), List.length_map, List.length_take, Nat.min_eq_left (by omega), Nat.sub_self, drop_get hk, take_get hk, List.map_append]
    simp
  rw [e] at ht
  exact ht
theorem Mid.close {w0 wr : World} {b base : Nat} {A : Option Addr} {n c : Nat} {cs : List Cmd} {i : Nat} {cm : Cmd} {Aw : Option Addr} {cw : Nat} (h : Mid w0 wr b base A n c cs i cm Aw cw cm.words.length) (hi : cs[i]? = some cm) : OutI w0 wr b base A n c cs (i + 1) := by
  obtain ⟨lo, mid, hh, xs1, xs2, ys, h1, h2, h3, h4, h5, h6, h7, h8, h9, h10⟩ := h
  rw [List.take_length, List.drop_length, List.append_nil] at h7
  refine ⟨mid, hh, xs1 ++ [.int .i64 ((cm.at_ + b : Nat) : Int), .slice Aw cm.words.length cw], xs2, h1, ?_, h3, h8, h9, h10⟩
  rw [take_get hi, List.map_append]
  refine cmdsO.append (cmdsO.one (cm := shiftC b cm) ⟨Aw, cw, ys, ?_, ?_, ?_, ?_⟩ h4) h2
  · simp [shiftC]
  · simpa [shiftC] using h5
  · simpa [shiftC] using h6
  · simpa [shiftC] using h7
theorem OutI.done {w0 wr : World} {b base : Nat} {A : Option Addr} {n c : Nat} {cs : List Cmd} (h : OutI w0 wr b base A n c cs cs.length) (hn : n = cs.length) : ∃ xs, Sl wr 2 (.slice A n c) n xs ∧ Blk wr (fun q => w0.heap.size ≤ q) (.slice A n c) n ∧ cmdsC wr (fun q => base ≤ q ∧ (Value.slice A n c).ownBlock ≠ some q) xs (cs.map (shiftC b)) ∧ Chg [] w0 wr := by
  obtain ⟨mid, hi, xs1, xs2, h1, h2, h3, h4, h5, h6⟩ := h
  rw [List.take_length] at h2
  rw [List.drop_length] at h3
  obtain ⟨rfl, -⟩ := h3
  rw [List.append_nil] at h1
  exact ⟨xs1, own_sl h1, fun q _ hq => h1.lt q hq, h2.plain, h6⟩
end Pl
end Go.Proofs.Ytnjjbiialpmhbaa
namespace Go.Proofs.Ytnjjbiialpmhbaa
namespace Pl
open Go.RowKit Tcl Plan
mutual
/-- An operation's four cells. -/
def opC (w : World) (B : Nat → Prop) : List Value → Plan.Op → Prop
  | xs, .mk k a ws rs => ∃ Aw cw Aa ca ys zs, xs = [.int .i64 (k : Int), .int .i64 (a : Int), .slice Aw ws.length cw, .slice Aa rs.length ca] ∧
      (Sl w 3 (.slice Aw ws.length cw) ws.length ys ∧ Blk w B (.slice Aw ws.length cw) ws.length ∧ wordsC w B ys ws) ∧ (Sl w 5 (.slice Aa rs.length ca) rs.length zs ∧ Blk w B (.slice Aa rs.length ca) rs.length ∧ armsC w B zs rs)
def armsC (w : World) (B : Nat → Prop) : List Value → List Arm → Prop
  | xs, [] => xs = []
  | xs, a :: r => ∃ h t, xs = h ++ t ∧ armC w B h a ∧ armsC w B t r
/-- An arm's five cells. -/
def armC (w : World) (B : Nat → Prop) : List Value → Arm → Prop
  | xs, .mk k p b => ∃ hp A c zs, xs = .int .i64 (k : Int) :: (hp ++ [.slice A b.length c]) ∧ wordC w B hp p ∧ (Sl w 4 (.slice A b.length c) b.length zs ∧ Blk w B (.slice A b.length c) b.length ∧ opsC w B zs b)
def opsC (w : World) (B : Nat → Prop) : List Value → List Plan.Op → Prop
  | xs, [] => xs = []
  | xs, o :: r => ∃ h t, xs = h ++ t ∧ opC w B h o ∧ opsC w B t r
end
mutual
theorem opC.chg {S : List Nat} {w w' : World} {B : Nat → Prop} (hc : Chg S w w') (hS : ∀ q, B q → q < w.heap.size → q ∉ S) : ∀ (o : Plan.Op) (xs : List Value), opC w B xs o → opC w' B xs o
  | .mk k a ws rs, xs, h => by
    rw [opC] at h ⊢
    obtain ⟨Aw, cw, Aa, ca, ys, zs, h1, ⟨h2, h3, h4⟩, h5, h6, h7⟩ := h
    have l2 := h2.len
    have l5 := h5.len
    exact ⟨Aw, cw, Aa, ca, ys, zs, h1, ⟨h2.chg hc (fun h0 q hq => hS q (h3 q (by omega) hq).1 (h3 q (by omega) hq).2), h3.chg hc, wordsC.chg hc hS h4⟩,
      h5.chg hc (fun h0 q hq => hS q (h6 q (by omega) hq).1 (h6 q (by omega) hq).2), h6.chg hc, armsC.chg hc hS rs zs h7⟩
theorem armsC.chg {S : List Nat} {w w' : World} {B : Nat → Prop} (hc : Chg S w w') (hS : ∀ q, B q → q < w.heap.size → q ∉ S) : ∀ (rs : List Arm) (xs : List Value), armsC w B xs rs → armsC w' B xs rs
  | [], xs, h => by rw [armsC] at h ⊢; exact h
  | a :: r, xs, h => by
    rw [armsC] at h ⊢
    obtain ⟨p, t, h1, h2, h3⟩ := h
    exact ⟨p, t, h1, armC.chg hc hS a p h2, armsC.chg hc hS r t h3⟩
theorem armC.chg {S : List Nat} {w w' : World} {B : Nat → Prop} (hc : Chg S w w') (hS : ∀ q, B q → q < w.heap.size → q ∉ S) : ∀ (a : Arm) (xs : List Value), armC w B xs a → armC w' B xs a
  | .mk k p b, xs, h => by
    rw [armC] at h ⊢
    obtain ⟨hp, A, c, zs, h1, h2, h5, h6, h7⟩ := h
    have l5 := h5.len
    exact ⟨hp, A, c, zs, h1, h2.chg hc hS, h5.chg hc (fun h0 q hq => hS q (h6 q (by omega) hq).1 (h6 q (by omega) hq).2), h6.chg hc, opsC.chg hc hS b zs h7⟩
theorem opsC.chg {S : List Nat} {w w' : World} {B : Nat → Prop} (hc : Chg S w w') (hS : ∀ q, B q → q < w.heap.size → q ∉ S) : ∀ (os : List Plan.Op) (xs : List Value), opsC w B xs os → opsC w' B xs os
  | [], xs, h => by rw [opsC] at h ⊢; exact h
  | o :: r, xs, h => by
    rw [opsC] at h ⊢
    obtain ⟨p, t, h1, h2, h3⟩ := h
    exact ⟨p, t, h1, opC.chg hc hS o p h2, opsC.chg hc hS r t h3⟩
end
mutual
theorem opC.imp {w : World} {B B' : Nat → Prop} (hi : ∀ q, B q → q < w.heap.size → B' q) : ∀ (o : Plan.Op) (xs : List Value), opC w B xs o → opC w B' xs o
  | .mk k a ws rs, xs, h => by
    rw [opC] at h ⊢
    obtain ⟨Aw, cw, Aa, ca, ys, zs, h1, ⟨h2, h3, h4⟩, h5, h6, h7⟩ := h
    exact ⟨Aw, cw, Aa, ca, ys, zs, h1, ⟨h2, h3.imp hi, wordsC.imp hi h4⟩, h5, h6.imp hi, armsC.imp hi rs zs h7⟩
theorem armsC.imp {w : World} {B B' : Nat → Prop} (hi : ∀ q, B q → q < w.heap.size → B' q) : ∀ (rs : List Arm) (xs : List Value), armsC w B xs rs → armsC w B' xs rs
  | [], xs, h => by rw [armsC] at h ⊢; exact h
  | a :: r, xs, h => by
    rw [armsC] at h ⊢
    obtain ⟨p, t, h1, h2, h3⟩ := h
    exact ⟨p, t, h1, armC.imp hi a p h2, armsC.imp hi r t h3⟩
theorem armC.imp {w : World} {B B' : Nat → Prop} (hi : ∀ q, B q → q < w.heap.size → B' q) : ∀ (a : Arm) (xs : List Value), armC w B xs a → armC w B' xs a
  | .mk k p b, xs, h => by
    rw [armC] at h ⊢
    obtain ⟨hp, A, c, zs, h1, h2, h5, h6, h7⟩ := h
    exact ⟨hp, A, c, zs, h1, h2.imp hi, h5, h6.imp hi, opsC.imp hi b zs h7⟩
theorem opsC.imp {w : World} {B B' : Nat → Prop} (hi : ∀ q, B q → q < w.heap.size → B' q) : ∀ (os : List Plan.Op) (xs : List Value), opsC w B xs os → opsC w B' xs os
  | [], xs, h => by rw [opsC] at h ⊢; exact h
  | o :: r, xs, h => by
    rw [opsC] at h ⊢
    obtain ⟨p, t, h1, h2, h3⟩ := h
    exact ⟨p, t, h1, opC.imp hi o p h2, opsC.imp hi r t h3⟩
end
theorem opC.len {w : World} {B : Nat → Prop} {xs : List Value} {o : Plan.Op} (h : opC w B xs o) : xs.length = 4 := by
  cases o; rw [opC] at h; obtain ⟨_, _, _, _, _, _, rfl, -⟩ := h; rfl
theorem armC.len {w : World} {B : Nat → Prop} {xs : List Value} {a : Arm} (h : armC w B xs a) : xs.length = 5 := by
  cases a; rw [armC] at h; obtain ⟨hp, _, _, _, rfl, h2, -⟩ := h; simp [h2.len]
theorem opsC.snoc {w : World} {B : Nat → Prop} {ys : List Value} {o : Plan.Op} (k : opC w B ys o) : ∀ {os : List Plan.Op} {xs : List Value}, opsC w B xs os → opsC w B (xs ++ ys) (os ++ [o]) := by
  intro os
  induction os with
  | nil => intro xs h; rw [opsC] at h; subst h; rw [List.nil_append, List.nil_append, opsC]; exact ⟨ys, [], by simp, k, by rw [opsC]⟩
  | cons a r ih =>
    intro xs h
    rw [opsC] at h
    obtain ⟨p, t, rfl, h2, h3⟩ := h
    rw [List.cons_append, opsC]
    exact ⟨p, t ++ ys, by simp, h2, ih h3⟩
theorem armsC.snoc {w : World} {B : Nat → Prop} {ys : List Value} {o : Arm} (k : armC w B ys o) : ∀ {os : List Arm} {xs : List Value}, armsC w B xs os → armsC w B (xs ++ ys) (os ++ [o]) := by
  intro os
  induction os with
  | nil => intro xs h; rw [armsC] at h; subst h; rw [List.nil_append, List.nil_append, armsC]; exact ⟨ys, [], by simp, k, by rw [armsC]⟩
  | cons a r ih =>
    intro xs h
    rw [armsC] at h
    obtain ⟨p, t, rfl, h2, h3⟩ := h
    rw [List.cons_append, armsC]
    exact ⟨p, t ++ ys, by simp, h2, ih h3⟩
theorem opsC.get {w : World} {B : Nat → Prop} : ∀ {os : List Plan.Op} {xs : List Value} {k : Nat} {o : Plan.Op}, opsC w B xs os → os[k]? = some o →
    ∃ p, opC w B p o ∧ ∀ j, j < 4 → xs[k * 4 + j]? = p[j]? := by
  intro os
  induction os with
  | nil => intro xs k o h hk; simp at hk
  | cons c0 r ih =>
    intro xs k o h hk
    rw [opsC] at h
    obtain ⟨p, t, rfl, h2, h3⟩ := h
    have hl := h2.len
    cases k with
    | zero => simp at hk; subst hk; exact ⟨p, h2, fun j hj => by rw [Nat.zero_mul, Nat.zero_add, List.getElem?_append_left (by omega)]⟩
    | succ k =>
      simp at hk
      obtain ⟨p', h4, h5⟩ := ih h3 hk
      refine ⟨p', h4, fun j hj => ?_⟩
      rw [List.getElem?_append_right (by omega), ← h5 j hj]; congr 1; omega
theorem armsC.get {w : World} {B : Nat → Prop} : ∀ {os : List Arm} {xs : List Value} {k : Nat} {o : Arm}, armsC w B xs os → os[k]? = some o →
    ∃ p, armC w B p o ∧ ∀ j, j < 5 → xs[k * 5 + j]? = p[j]? := by
  intro os
  induction os with
  | nil => intro xs k o h hk; simp at hk
  | cons c0 r ih =>
    intro xs k o h hk
    rw [armsC] at h
    obtain ⟨p, t, rfl, h2, h3⟩ := h
    have hl := h2.len
    cases k with
    | zero => simp at hk; subst hk; exact ⟨p, h2, fun j hj => by rw [Nat.zero_mul, Nat.zero_add, List.getElem?_append_left (by omega)]⟩
    | succ k =>
      simp at hk
      obtain ⟨p', h4, h5⟩ := ih h3 hk
      refine ⟨p', h4, fun j hj => ?_⟩
      rw [List.getElem?_append_right (by omega), ← h5 j hj]; congr 1; omega
/-- A list of operations in a slice. -/
def OpsV (w : World) (B : Nat → Prop) (v : Value) (l : List Plan.Op) : Prop := ∃ xs, Sl w 4 v l.length xs ∧ Blk w B v l.length ∧ opsC w B xs l
theorem OpsV.chg {S : List Nat} {w w' : World} {B : Nat → Prop} {v : Value} {l : List Plan.Op} (h : OpsV w B v l) (hc : Chg S w w') (hS : ∀ q, B q → q < w.heap.size → q ∉ S) : OpsV w' B v l := by
  obtain ⟨xs, h1, h2, h3⟩ := h
  have l1 := h1.len
  exact ⟨xs, h1.chg hc (fun h0 q hq => hS q (h2 q (by omega) hq).1 (h2 q (by omega) hq).2), h2.chg hc, opsC.chg hc hS l xs h3⟩
theorem OpsV.imp {w : World} {B B' : Nat → Prop} {v : Value} {l : List Plan.Op} (h : OpsV w B v l) (hi : ∀ q, B q → q < w.heap.size → B' q) : OpsV w B' v l := by
  obtain ⟨xs, h1, h2, h3⟩ := h
  exact ⟨xs, h1, h2.imp hi, opsC.imp hi l xs h3⟩
end Pl
end Go.Proofs.Ytnjjbiialpmhbaa
