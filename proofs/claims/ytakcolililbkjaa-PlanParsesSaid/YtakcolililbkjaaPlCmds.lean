/- How Parse's commands lie in memory: each in a stretch of its own. No condition. -/
import Derived.Test.YtakcolililbkjaaPlAt
set_option linter.unusedVariables false
set_option linter.unusedSimpArgs false
namespace Go.Proofs.Ytakcolililbkjaa
namespace Pl
open Go.RowKit Tcl Plan
theorem own_less {w : World} {base base' : Nat} {e : TypeId} {size n : Nat} {v : Value} {xs : List Value} (h : w.ownsRow base e size v n xs) (hb : base' ≤ base) : w.ownsRow base' e size v n xs := by
  obtain ⟨h1, h2⟩ := h
  refine ⟨h1, ?_⟩
  rcases h2 with h2 | ⟨g, cap, cur, h3, h4, h5⟩
  · exact .inl h2
  · exact .inr ⟨g, cap, cur, h3, Nat.le_trans hb h4, h5⟩
/-- A command between `lo` and `mid`, nothing of it in `row`. -/
def cmdO (w : World) (row : Option Nat) (lo mid : Nat) (xs : List Value) (cm : Cmd) : Prop :=
  ∃ A c ys, xs = [.int .i64 cm.at_, .slice A cm.words.length c] ∧ w.ownsRow lo 38 3 (.slice A cm.words.length c) cm.words.length ys ∧ (∀ q, (Value.slice A cm.words.length c).ownBlock = some q → q < mid ∧ row ≠ some q) ∧
    wordsC w (fun q => lo ≤ q ∧ q < mid ∧ row ≠ some q ∧ (Value.slice A cm.words.length c).ownBlock ≠ some q) ys cm.words
def cmdsO (w : World) (row : Option Nat) : Nat → Nat → List Value → List Cmd → Prop
  | lo, hi, xs, [] => xs = [] ∧ lo ≤ hi
  | lo, hi, xs, cm :: r => ∃ mid h t, lo ≤ mid ∧ xs = h ++ t ∧ cmdO w row lo mid h cm ∧ cmdsO w row mid hi t r
theorem cmdO.chg {S : List Nat} {w w' : World} {row : Option Nat} {lo mid : Nat} {xs : List Value} {cm : Cmd} (h : cmdO w row lo mid xs cm) (hc : Chg S w w') (hS : ∀ q, lo ≤ q → q < mid → row ≠ some q → q ∉ S) : cmdO w' row lo mid xs cm := by
  obtain ⟨A, c, ys, h1, h2, h3, h4⟩ := h
  exact ⟨A, c, ys, h1, own_chg h2 hc (fun q hq => hS q (h2.lt q hq).1 (h3 q hq).1 (h3 q hq).2), h3, wordsC.chg hc (fun q hq _ => hS q hq.1 hq.2.1 hq.2.2.1) h4⟩
theorem cmdO.row {w : World} {row row' : Option Nat} {lo mid : Nat} {xs : List Value} {cm : Cmd} (h : cmdO w row lo mid xs cm) (hr : row' = row ∨ ∀ q, row' = some q → mid ≤ q) : cmdO w row' lo mid xs cm := by
  obtain ⟨A, c, ys, h1, h2, h3, h4⟩ := h
  have hn : ∀ q, q < mid → row ≠ some q → row' ≠ some q := fun q hq hn e => by
    rcases hr with hr | hr
    · exact hn (hr ▸ e)
    · have := hr q e; omega
  exact ⟨A, c, ys, h1, h2, fun q hq => ⟨(h3 q hq).1, hn q (h3 q hq).1 (h3 q hq).2⟩, wordsC.imp (fun q hq _ => ⟨hq.1, hq.2.1, hn q hq.2.1 hq.2.2.1, hq.2.2.2⟩) h4⟩
theorem cmdO.mono {w : World} {row : Option Nat} {lo lo' mid mid' : Nat} {xs : List Value} {cm : Cmd} (h : cmdO w row lo mid xs cm) (hl : lo' ≤ lo) (hm : mid ≤ mid') : cmdO w row lo' mid' xs cm := by
  obtain ⟨A, c, ys, h1, h2, h3, h4⟩ := h
  exact ⟨A, c, ys, h1, own_less h2 hl, fun q hq => ⟨Nat.lt_of_lt_of_le (h3 q hq).1 hm, (h3 q hq).2⟩, wordsC.imp (fun q hq _ => ⟨by have := hq.1; omega, by have := hq.2.1; omega, hq.2.2⟩) h4⟩
theorem cmdsO.le {w : World} {row : Option Nat} : ∀ {cs : List Cmd} {lo hi : Nat} {xs : List Value}, cmdsO w row lo hi xs cs → lo ≤ hi := by
  intro cs
  induction cs with
  | nil => intro lo hi xs h; exact h.2
  | cons c r ih => intro lo hi xs h; obtain ⟨mid, a, t, h1, h2, h3, h4⟩ := h; exact Nat.le_trans h1 (ih h4)
theorem cmdsO.len {w : World} {row : Option Nat} : ∀ {cs : List Cmd} {lo hi : Nat} {xs : List Value}, cmdsO w row lo hi xs cs → xs.length = cs.length * 2 := by
  intro cs
  induction cs with
  | nil => intro lo hi xs h; rw [h.1]; rfl
  | cons c r ih =>
    intro lo hi xs h
    obtain ⟨mid, a, t, h1, rfl, h3, h4⟩ := h
    obtain ⟨A, c, ys, rfl, -⟩ := h3
    rw [List.length_append, ih h4, List.length_cons, List.length_cons]; simp; omega
theorem cmdsO.chg {S : List Nat} {w w' : World} {row : Option Nat} (hc : Chg S w w') : ∀ {cs : List Cmd} {lo hi : Nat} {xs : List Value}, cmdsO w row lo hi xs cs → (∀ q, lo ≤ q → q < hi → row ≠ some q → q ∉ S) → cmdsO w' row lo hi xs cs := by
  intro cs
  induction cs with
  | nil => intro lo hi xs h _; exact h
  | cons c r ih =>
    intro lo hi xs h hS
    obtain ⟨mid, a, t, h1, h2, h3, h4⟩ := h
    have := h4.le
    exact ⟨mid, a, t, h1, h2, h3.chg hc (fun q h5 h6 => hS q h5 (by omega)), ih h4 (fun q h5 => hS q (by omega))⟩
theorem cmdsO.row {w : World} {row row' : Option Nat} : ∀ {cs : List Cmd} {lo hi : Nat} {xs : List Value}, cmdsO w row lo hi xs cs → (row' = row ∨ ∀ q, row' = some q → hi ≤ q) → cmdsO w row' lo hi xs cs := by
  intro cs
  induction cs with
  | nil => intro lo hi xs h _; exact h
  | cons c r ih =>
    intro lo hi xs h hr
    obtain ⟨mid, a, t, h1, h2, h3, h4⟩ := h
    have := h4.le
    exact ⟨mid, a, t, h1, h2, h3.row (hr.imp id (fun hr q hq => by have := hr q hq; omega)), ih h4 hr⟩
theorem cmdsO.mono {w : World} {row : Option Nat} : ∀ {cs : List Cmd} {lo hi lo' hi' : Nat} {xs : List Value}, cmdsO w row lo hi xs cs → lo' ≤ lo → hi ≤ hi' → cmdsO w row lo' hi' xs cs := by
  intro cs
  induction cs with
  | nil => intro lo hi lo' hi' xs h hl hh; exact ⟨h.1, by have := h.2; omega⟩
  | cons c r ih =>
    intro lo hi lo' hi' xs h hl hh
    obtain ⟨mid, a, t, h1, h2, h3, h4⟩ := h
    exact ⟨mid, a, t, by omega, h2, h3.mono hl (Nat.le_refl _), ih h4 (Nat.le_refl _) hh⟩
theorem cmdsO.append {w : World} {row : Option Nat} {cs' : List Cmd} {mid hi : Nat} {ys : List Value} (k : cmdsO w row mid hi ys cs') : ∀ {cs : List Cmd} {lo : Nat} {xs : List Value}, cmdsO w row lo mid xs cs → cmdsO w row lo hi (xs ++ ys) (cs ++ cs') := by
  intro cs
  induction cs with
  | nil => intro lo xs h; rw [h.1]; exact k.mono h.2 (Nat.le_refl _)
  | cons c r ih =>
    intro lo xs h
    obtain ⟨m, a, t, h1, rfl, h3, h4⟩ := h
    exact ⟨m, a, t ++ ys, h1, by simp, h3, ih h4⟩
theorem cmdsO.one {w : World} {row : Option Nat} {lo mid : Nat} {xs : List Value} {cm : Cmd} (h : cmdO w row lo mid xs cm) (hl : lo ≤ mid) : cmdsO w row lo mid xs [cm] := ⟨mid, xs, [], hl, by simp, h, rfl, Nat.le_refl _⟩
theorem cmdsO.split {w : World} {row : Option Nat} {b : List Cmd} {hi : Nat} : ∀ {a : List Cmd} {lo : Nat} {xs : List Value}, cmdsO w row lo hi xs (a ++ b) → ∃ mid ys zs, xs = ys ++ zs ∧ cmdsO w row lo mid ys a ∧ cmdsO w row mid hi zs b := by
  intro a
  induction a with
  | nil => intro lo xs h; exact ⟨lo, [], xs, rfl, ⟨rfl, Nat.le_refl _⟩, h⟩
  | cons c r ih =>
    intro lo xs h
    obtain ⟨m, p, t, h1, rfl, h3, h4⟩ := h
    obtain ⟨mid, ys, zs, rfl, h5, h6⟩ := ih h4
    exact ⟨mid, p ++ ys, zs, by simp, ⟨m, p, ys, h1, rfl, h3, h5⟩, h6⟩
theorem cmdsO.plain {w : World} {row : Option Nat} : ∀ {cs : List Cmd} {lo hi : Nat} {xs : List Value}, cmdsO w row lo hi xs cs → cmdsC w (fun q => lo ≤ q ∧ row ≠ some q) xs cs := by
  intro cs
  induction cs with
  | nil => intro lo hi xs h; exact h.1
  | cons c r ih =>
    intro lo hi xs h
    obtain ⟨mid, a, t, h1, rfl, h3, h4⟩ := h
    obtain ⟨A, cc, ys, rfl, h5, h6, h7⟩ := h3
    refine ⟨_, t, rfl, ⟨A, cc, ys, rfl, own_sl h5, fun q _ hq => ⟨⟨(h5.lt q hq).1, (h6 q hq).2⟩, (h5.lt q hq).2⟩, wordsC.imp (fun q hq _ => ⟨hq.1, hq.2.2.1⟩) h7⟩, cmdsC.imp (fun q hq _ => ⟨by have := hq.1; omega, hq.2⟩) (ih h4)⟩
/-- The commands of a row. -/
def CmdsAt (w : World) (base : Nat) (row : Option Nat) (xs : List Value) (cs : List Cmd) : Prop := ∃ hi, hi ≤ w.heap.size ∧ cmdsO w row base hi xs cs
theorem CmdsAt.nil (w : World) (base : Nat) (row : Option Nat) (h : base ≤ w.heap.size) : CmdsAt w base row [] [] := ⟨base, h, rfl, Nat.le_refl _⟩
theorem CmdsAt.chg {S : List Nat} {w w' : World} {base : Nat} {row : Option Nat} {xs : List Value} {cs : List Cmd} (h : CmdsAt w base row xs cs) (hc : Chg S w w') (hS : ∀ k ∈ S, k < base ∨ row = some k ∨ w.heap.size ≤ k) : CmdsAt w' base row xs cs := by
  obtain ⟨hi, h1, h2⟩ := h
  exact ⟨hi, Nat.le_trans h1 hc.size, h2.chg hc (fun q h3 h4 h5 hm => by
    rcases hS q hm with h6 | h6 | h6
    · omega
    · exact h5 h6
    · omega)⟩
theorem CmdsAt.less {w : World} {base base' : Nat} {row : Option Nat} {xs : List Value} {cs : List Cmd} (h : CmdsAt w base row xs cs) (hb : base' ≤ base) : CmdsAt w base' row xs cs := by
  obtain ⟨hi, h1, h2⟩ := h
  exact ⟨hi, h1, h2.mono hb (Nat.le_refl _)⟩
/-- How far Parse is: well so far, or something is wrong. -/
def PaGo (w0 w : World) (g : Nat) (s : List UInt8) (B : ByteArray) (row : Option Nat) (xs : List Value) (n gk : Nat) : Prop :=
  (∃ (i : Nat) (cs : List Cmd), PS w g B i 0 0 ∧ CmdsAt w (w0.heap.size + 1) row xs cs ∧ cs.length = n ∧ parseGo s 0 [] = parseGo s i cs ∧ i ≤ s.length ∧ n ≤ i ∧ gk = s.length - i)
  ∨ (∃ p q : Nat, PS w g B s.length p q ∧ parseGo s 0 [] = .error (p, q) ∧ q ≠ 0 ∧ gk = 0)
/-- A command is read, and is not yet in the row. -/
def PaMid (w0 w : World) (g : Nat) (s : List UInt8) (B : ByteArray) (row : Option Nat) (xs : List Value) (n : Nat) (v : List Value) (gk : Nat) : Prop :=
  (∃ (j : Nat) (cs : List Cmd) (cm : Cmd) (A : Option Addr) (c : Nat) (ys : List Value) (hi : Nat), PS w g B j 0 0 ∧ cmdsO w row (w0.heap.size + 1) hi xs cs ∧ cs.length = n ∧ parseGo s 0 [] = parseGo s j (cs ++ [cm]) ∧ j ≤ s.length ∧ n + 1 ≤ j ∧ gk = s.length - j ∧
    v = [.int .i64 cm.at_, .slice A cm.words.length c] ∧ w.ownsRow hi 38 3 (.slice A cm.words.length c) cm.words.length ys ∧ WordsAt w hi (Value.slice A cm.words.length c).ownBlock ys cm.words ∧ (∀ q, row = some q → q < hi) ∧ hi ≤ w.heap.size)
  ∨ (∃ p q : Nat, PS w g B s.length p q ∧ parseGo s 0 [] = .error (p, q) ∧ q ≠ 0 ∧ gk = 0)
theorem PaMid.go {S : List Nat} {w0 W w' : World} {g : Nat} {s : List UInt8} {B : ByteArray} {row row' : Option Nat} {xs v : List Value} {n gk : Nat} (h : PaMid w0 W g s B row xs n v gk) (hc : Chg S W w')
    (hS : ∀ k ∈ S, k ≠ g ∧ (k < w0.heap.size + 1 ∨ row = some k ∨ W.heap.size ≤ k)) (hr : row' = row ∨ ∀ q, row' = some q → W.heap.size ≤ q) : PaGo w0 w' g s B row' (xs ++ v) (n + 1) gk := by
  have hgS : g ∉ S := fun hm => (hS g hm).1 rfl
  rcases h with ⟨j, cs, cm, A, c, ys, hi, h1, h2, h3, h4, h5, h6, h7, rfl, h8, h8', h9, h10⟩ | ⟨p, q, h1, h2, h3, h4⟩
  · have hle := h2.le
    have hnS : ∀ q, w0.heap.size + 1 ≤ q → q < W.heap.size → row ≠ some q → q ∉ S := fun q k1 k2 k3 hm => by
      rcases (hS q hm).2 with h6 | h6 | h6
      · omega
      · exact k3 h6
      · omega
    have hnr : ∀ q, hi ≤ q → row ≠ some q := fun q hq e => by have := h9 q e; omega
    have hnr' : ∀ q, hi ≤ q → q < W.heap.size → row' ≠ some q := fun q hq hq2 e => by
      rcases hr with hr | hr
      · exact hnr q hq (hr ▸ e)
      · have := hr q e; omega
    have k1 : cmdsO w' row' (w0.heap.size + 1) hi xs cs := (h2.chg hc (fun q a b => hnS q a (by omega))).row (hr.imp id (fun hr q hq => by have := hr q hq; omega))
    have k2 : cmdO w' row' hi W.heap.size [.int .i64 cm.at_, .slice A cm.words.length c] cm :=
      ⟨A, c, ys, rfl, own_chg h8 hc (fun q hq => hnS q (by have := (h8.lt q hq).1; omega) (h8.lt q hq).2 (hnr q (h8.lt q hq).1)), fun q hq => ⟨(h8.lt q hq).2, hnr' q (h8.lt q hq).1 (h8.lt q hq).2⟩,
        wordsC.chg hc (fun q hq _ => hnS q (by have := hq.1; omega) hq.2.1 (hnr q hq.1)) (wordsC.imp (fun q hq hl => ⟨hq.1, hl, hnr' q hq.1 hl, hq.2⟩) (wordsC_of h8'))⟩
    exact .inl ⟨j, cs ++ [cm], h1.chg hc hgS, ⟨W.heap.size, hc.size, cmdsO.append (cmdsO.one k2 h10) k1⟩, by simp [h3], h4, h5, h6, h7⟩
  · exact .inr ⟨p, q, h1.chg hc hgS, h2, h3, h4⟩
end Pl
end Go.Proofs.Ytakcolililbkjaa
