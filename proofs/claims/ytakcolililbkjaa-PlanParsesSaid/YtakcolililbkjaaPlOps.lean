/- How operations lie in memory. No condition. -/
import Derived.Test.YtakcolililbkjaaPlAt
set_option linter.unusedVariables false
set_option linter.unusedSimpArgs false
namespace Go.Proofs.Ytakcolililbkjaa
namespace Pl
open Go.RowKit Tcl Plan
mutual
/-- An operation's four cells. -/
def opC (w : World) (B : Nat → Prop) : List Value → Plan.Op → Prop
  | xs, .mk k a ws rs => ∃ Aw cw Aa ca ys zs, xs = [.int .i64 (k : Int), .int .i64 (a : Int), .slice Aw ws.length cw, .slice Aa rs.length ca] ∧
      (Sl w 3 (.slice Aw ws.length cw) ws.length ys ∧ Blk w B (.slice Aw ws.length cw) ws.length ∧ wordsC w B ys ws) ∧ (Sl w 5 (.slice Aa rs.length ca) rs.length zs ∧ Blk w B (.slice Aa rs.length ca) rs.length ∧ armsC w B zs rs)
def armsC (w : World) (B : Nat → Prop) : List Value → List Arm → Prop
  | xs, [] => xs = []
  | xs, a :: r => ∃ h t, xs = h ++ t ∧ armC w B h a ∧ armsC w B t r
/-- An arm's five cells. -/
def armC (w : World) (B : Nat → Prop) : List Value → Arm → Prop
  | xs, .mk k p b => ∃ hp A c zs, xs = .int .i64 (k : Int) :: (hp ++ [.slice A b.length c]) ∧ wordC w B hp p ∧ (Sl w 4 (.slice A b.length c) b.length zs ∧ Blk w B (.slice A b.length c) b.length ∧ opsC w B zs b)
def opsC (w : World) (B : Nat → Prop) : List Value → List Plan.Op → Prop
  | xs, [] => xs = []
  | xs, o :: r => ∃ h t, xs = h ++ t ∧ opC w B h o ∧ opsC w B t r
end
mutual
theorem opC.chg {S : List Nat} {w w' : World} {B : Nat → Prop} (hc : Chg S w w') (hS : ∀ q, B q → q < w.heap.size → q ∉ S) : ∀ (o : Plan.Op) (xs : List Value), opC w B xs o → opC w' B xs o
  | .mk k a ws rs, xs, h => by
    rw [opC] at h ⊢
    obtain ⟨Aw, cw, Aa, ca, ys, zs, h1, ⟨h2, h3, h4⟩, h5, h6, h7⟩ := h
    have l2 := h2.len
    have l5 := h5.len
    exact ⟨Aw, cw, Aa, ca, ys, zs, h1, ⟨h2.chg hc (fun h0 q hq => hS q (h3 q (by omega) hq).1 (h3 q (by omega) hq).2), h3.chg hc, wordsC.chg hc hS h4⟩,
      h5.chg hc (fun h0 q hq => hS q (h6 q (by omega) hq).1 (h6 q (by omega) hq).2), h6.chg hc, armsC.chg hc hS rs zs h7⟩
theorem armsC.chg {S : List Nat} {w w' : World} {B : Nat → Prop} (hc : Chg S w w') (hS : ∀ q, B q → q < w.heap.size → q ∉ S) : ∀ (rs : List Arm) (xs : List Value), armsC w B xs rs → armsC w' B xs rs
  | [], xs, h => by rw [armsC] at h ⊢; exact h
  | a :: r, xs, h => by
    rw [armsC] at h ⊢
    obtain ⟨p, t, h1, h2, h3⟩ := h
    exact ⟨p, t, h1, armC.chg hc hS a p h2, armsC.chg hc hS r t h3⟩
theorem armC.chg {S : List Nat} {w w' : World} {B : Nat → Prop} (hc : Chg S w w') (hS : ∀ q, B q → q < w.heap.size → q ∉ S) : ∀ (a : Arm) (xs : List Value), armC w B xs a → armC w' B xs a
  | .mk k p b, xs, h => by
    rw [armC] at h ⊢
    obtain ⟨hp, A, c, zs, h1, h2, h5, h6, h7⟩ := h
    have l5 := h5.len
    exact ⟨hp, A, c, zs, h1, h2.chg hc hS, h5.chg hc (fun h0 q hq => hS q (h6 q (by omega) hq).1 (h6 q (by omega) hq).2), h6.chg hc, opsC.chg hc hS b zs h7⟩
theorem opsC.chg {S : List Nat} {w w' : World} {B : Nat → Prop} (hc : Chg S w w') (hS : ∀ q, B q → q < w.heap.size → q ∉ S) : ∀ (os : List Plan.Op) (xs : List Value), opsC w B xs os → opsC w' B xs os
  | [], xs, h => by rw [opsC] at h ⊢; exact h
  | o :: r, xs, h => by
    rw [opsC] at h ⊢
    obtain ⟨p, t, h1, h2, h3⟩ := h
    exact ⟨p, t, h1, opC.chg hc hS o p h2, opsC.chg hc hS r t h3⟩
end
mutual
theorem opC.imp {w : World} {B B' : Nat → Prop} (hi : ∀ q, B q → q < w.heap.size → B' q) : ∀ (o : Plan.Op) (xs : List Value), opC w B xs o → opC w B' xs o
  | .mk k a ws rs, xs, h => by
    rw [opC] at h ⊢
    obtain ⟨Aw, cw, Aa, ca, ys, zs, h1, ⟨h2, h3, h4⟩, h5, h6, h7⟩ := h
    exact ⟨Aw, cw, Aa, ca, ys, zs, h1, ⟨h2, h3.imp hi, wordsC.imp hi h4⟩, h5, h6.imp hi, armsC.imp hi rs zs h7⟩
theorem armsC.imp {w : World} {B B' : Nat → Prop} (hi : ∀ q, B q → q < w.heap.size → B' q) : ∀ (rs : List Arm) (xs : List Value), armsC w B xs rs → armsC w B' xs rs
  | [], xs, h => by rw [armsC] at h ⊢; exact h
  | a :: r, xs, h => by
    rw [armsC] at h ⊢
    obtain ⟨p, t, h1, h2, h3⟩ := h
    exact ⟨p, t, h1, armC.imp hi a p h2, armsC.imp hi r t h3⟩
theorem armC.imp {w : World} {B B' : Nat → Prop} (hi : ∀ q, B q → q < w.heap.size → B' q) : ∀ (a : Arm) (xs : List Value), armC w B xs a → armC w B' xs a
  | .mk k p b, xs, h => by
    rw [armC] at h ⊢
    obtain ⟨hp, A, c, zs, h1, h2, h5, h6, h7⟩ := h
    exact ⟨hp, A, c, zs, h1, h2.imp hi, h5, h6.imp hi, opsC.imp hi b zs h7⟩
theorem opsC.imp {w : World} {B B' : Nat → Prop} (hi : ∀ q, B q → q < w.heap.size → B' q) : ∀ (os : List Plan.Op) (xs : List Value), opsC w B xs os → opsC w B' xs os
  | [], xs, h => by rw [opsC] at h ⊢; exact h
  | o :: r, xs, h => by
    rw [opsC] at h ⊢
    obtain ⟨p, t, h1, h2, h3⟩ := h
    exact ⟨p, t, h1, opC.imp hi o p h2, opsC.imp hi r t h3⟩
end
theorem opC.len {w : World} {B : Nat → Prop} {xs : List Value} {o : Plan.Op} (h : opC w B xs o) : xs.length = 4 := by
  cases o; rw [opC] at h; obtain ⟨_, _, _, _, _, _, rfl, -⟩ := h; rfl
theorem armC.len {w : World} {B : Nat → Prop} {xs : List Value} {a : Arm} (h : armC w B xs a) : xs.length = 5 := by
  cases a; rw [armC] at h; obtain ⟨hp, _, _, _, rfl, h2, -⟩ := h; simp [h2.len]
theorem opsC.snoc {w : World} {B : Nat → Prop} {ys : List Value} {o : Plan.Op} (k : opC w B ys o) : ∀ {os : List Plan.Op} {xs : List Value}, opsC w B xs os → opsC w B (xs ++ ys) (os ++ [o]) := by
  intro os
  induction os with
  | nil => intro xs h; rw [opsC] at h; subst h; rw [List.nil_append, List.nil_append, opsC]; exact ⟨ys, [], by simp, k, by rw [opsC]⟩
  | cons a r ih =>
    intro xs h
    rw [opsC] at h
    obtain ⟨p, t, rfl, h2, h3⟩ := h
    rw [List.cons_append, opsC]
    exact ⟨p, t ++ ys, by simp, h2, ih h3⟩
theorem armsC.snoc {w : World} {B : Nat → Prop} {ys : List Value} {o : Arm} (k : armC w B ys o) : ∀ {os : List Arm} {xs : List Value}, armsC w B xs os → armsC w B (xs ++ ys) (os ++ [o]) := by
  intro os
  induction os with
  | nil => intro xs h; rw [armsC] at h; subst h; rw [List.nil_append, List.nil_append, armsC]; exact ⟨ys, [], by simp, k, by rw [armsC]⟩
  | cons a r ih =>
    intro xs h
    rw [armsC] at h
    obtain ⟨p, t, rfl, h2, h3⟩ := h
    rw [List.cons_append, armsC]
    exact ⟨p, t ++ ys, by simp, h2, ih h3⟩
theorem opsC.get {w : World} {B : Nat → Prop} : ∀ {os : List Plan.Op} {xs : List Value} {k : Nat} {o : Plan.Op}, opsC w B xs os → os[k]? = some o →
    ∃ p, opC w B p o ∧ ∀ j, j < 4 → xs[k * 4 + j]? = p[j]? := by
  intro os
  induction os with
  | nil => intro xs k o h hk; simp at hk
  | cons c0 r ih =>
    intro xs k o h hk
    rw [opsC] at h
    obtain ⟨p, t, rfl, h2, h3⟩ := h
    have hl := h2.len
    cases k with
    | zero => simp at hk; subst hk; exact ⟨p, h2, fun j hj => by rw [Nat.zero_mul, Nat.zero_add, List.getElem?_append_left (by omega)]⟩
    | succ k =>
      simp at hk
      obtain ⟨p', h4, h5⟩ := ih h3 hk
      refine ⟨p', h4, fun j hj => ?_⟩
      rw [List.getElem?_append_right (by omega), ← h5 j hj]; congr 1; omega
theorem armsC.get {w : World} {B : Nat → Prop} : ∀ {os : List Arm} {xs : List Value} {k : Nat} {o : Arm}, armsC w B xs os → os[k]? = some o →
    ∃ p, armC w B p o ∧ ∀ j, j < 5 → xs[k * 5 + j]? = p[j]? := by
  intro os
  induction os with
  | nil => intro xs k o h hk; simp at hk
  | cons c0 r ih =>
    intro xs k o h hk
    rw [armsC] at h
    obtain ⟨p, t, rfl, h2, h3⟩ := h
    have hl := h2.len
    cases k with
    | zero => simp at hk; subst hk; exact ⟨p, h2, fun j hj => by rw [Nat.zero_mul, Nat.zero_add, List.getElem?_append_left (by omega)]⟩
    | succ k =>
      simp at hk
      obtain ⟨p', h4, h5⟩ := ih h3 hk
      refine ⟨p', h4, fun j hj => ?_⟩
      rw [List.getElem?_append_right (by omega), ← h5 j hj]; congr 1; omega
/-- A list of operations in a slice. -/
def OpsV (w : World) (B : Nat → Prop) (v : Value) (l : List Plan.Op) : Prop := ∃ xs, Sl w 4 v l.length xs ∧ Blk w B v l.length ∧ opsC w B xs l
theorem OpsV.chg {S : List Nat} {w w' : World} {B : Nat → Prop} {v : Value} {l : List Plan.Op} (h : OpsV w B v l) (hc : Chg S w w') (hS : ∀ q, B q → q < w.heap.size → q ∉ S) : OpsV w' B v l := by
  obtain ⟨xs, h1, h2, h3⟩ := h
  have l1 := h1.len
  exact ⟨xs, h1.chg hc (fun h0 q hq => hS q (h2 q (by omega) hq).1 (h2 q (by omega) hq).2), h2.chg hc, opsC.chg hc hS l xs h3⟩
theorem OpsV.imp {w : World} {B B' : Nat → Prop} {v : Value} {l : List Plan.Op} (h : OpsV w B v l) (hi : ∀ q, B q → q < w.heap.size → B' q) : OpsV w B' v l := by
  obtain ⟨xs, h1, h2, h3⟩ := h
  exact ⟨xs, h1, h2.imp hi, opsC.imp hi l xs h3⟩
end Pl
end Go.Proofs.Ytakcolililbkjaa
