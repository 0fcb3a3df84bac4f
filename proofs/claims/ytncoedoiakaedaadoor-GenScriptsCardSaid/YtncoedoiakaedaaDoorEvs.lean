/- Events in memory: those that came in, and a row of events that is made. No condition. -/
import Derived.Test.YtncoedoiakaedaaDoorBag
import Derived.Test.YtncoedoiakaedaaDoorTurnK
set_option linter.unusedVariables false
set_option linter.unusedSimpArgs false
namespace Go.Proofs.YtncoedoiakaedaaDoor
open Go.RowKit Turn Tl
namespace Ev_
/-- An event as it came: its direction, its bytes. -/
abbrev EI := Int × List UInt8
def dz (d : Bool) : Int := if d then 1 else 0
theorem dz_inj {a b : Bool} : dz a = dz b ↔ a = b := by cases a <;> cases b <;> simp [dz]
/-- The cells of events, read. -/
def EvC (w : World) (cells : List Value) (l : List EI) : Prop :=
  cells.length = l.length * 3 ∧ ∀ (j : Nat) (e : EI), l[j]? = some e → ∃ t A c, cells[j * 3]? = some (.int .i64 e.1) ∧ cells[j * 3 + 1]? = some (.int .i64 t) ∧ cells[j * 3 + 2]? = some (.slice A e.2.length c) ∧ Sl w 1 (.slice A e.2.length c) e.2.length (cellsOf .u8 (ns e.2))
theorem EvC.nil (w : World) : EvC w [] [] := ⟨rfl, fun j e h => by simp at h⟩
theorem EvC.chg {S : List Nat} {w w' : World} {cells : List Value} {l : List EI} (h : EvC w cells l) (hc : Chg S w w')
    (hS : ∀ (j : Nat) (e : EI) A c, l[j]? = some e → cells[j * 3 + 2]? = some (.slice A e.2.length c) → 0 < e.2.length → ∀ k, (Value.slice A e.2.length c).ownBlock = some k → k ∉ S) : EvC w' cells l := by
  refine ⟨h.1, fun j e hj => ?_⟩
  obtain ⟨t, A, c, h1, h2, h3, h4⟩ := h.2 j e hj
  exact ⟨t, A, c, h1, h2, h3, h4.chg hc (fun hp k hk => hS j e A c hj h3 (by simpa using hp) k hk)⟩
theorem EvC.chg0 {w w' : World} {cells : List Value} {l : List EI} (h : EvC w cells l) (hc : Chg [] w w') : EvC w' cells l := h.chg hc (by simp)
theorem EvC.snoc {w : World} {cells : List Value} {l : List EI} (h : EvC w cells l) (e : EI) (t : Int) (A : Option Addr) (c : Nat) (hs : Sl w 1 (.slice A e.2.length c) e.2.length (cellsOf .u8 (ns e.2))) :
    EvC w (cells ++ [.int .i64 e.1, .int .i64 t, .slice A e.2.length c]) (l ++ [e]) := by
  have hl := h.1
  refine ⟨by rw [List.length_append, List.length_append, hl, Nat.add_mul]; rfl, fun j e' hj => ?_⟩
  rcases Nat.lt_or_ge j l.length with hlt | hge
  · rw [List.getElem?_append_left hlt] at hj
    obtain ⟨t', A', c', h1, h2, h3, h4⟩ := h.2 j e' hj
    exact ⟨t', A', c', by rw [List.getElem?_append_left (by omega)]; exact h1, by rw [List.getElem?_append_left (by omega)]; exact h2, by rw [List.getElem?_append_left (by omega)]; exact h3, h4⟩
  · rw [List.getElem?_append_right hge] at hj
    obtain ⟨hj0, rfl⟩ : j - l.length = 0 ∧ e = e' := by
      rcases Nat.eq_zero_or_pos (j - l.length) with h0 | h0
      · rw [h0] at hj; exact ⟨h0, by simpa using hj⟩
      · rw [List.getElem?_eq_none (by simp; omega)] at hj; cases hj
    obtain rfl : j = l.length := by omega
    refine ⟨t, A, c, ?_, ?_, ?_, hs⟩
    · rw [List.getElem?_append_right (by omega), hl]; simp
    · rw [List.getElem?_append_right (by omega), hl]; simp
    · rw [List.getElem?_append_right (by omega), hl]; simp
/-- The cells of events that are made: each event's bytes in a row of the call's own; the last one's row is no other one's. -/
def EvO (w : World) (base : Nat) (cells : List Value) (m : List Ev) : Prop :=
  cells.length = m.length * 3 ∧ (∀ (j : Nat) (e : Ev), m[j]? = some e → ∃ t A c, cells[j * 3]? = some (.int .i64 (dz e.1)) ∧ cells[j * 3 + 1]? = some (.int .i64 t) ∧ cells[j * 3 + 2]? = some (.slice A e.2.length c) ∧ w.ownsRow base 5 1 (.slice A e.2.length c) e.2.length (cellsOf .u8 (ns e.2))) ∧
    ∀ (j : Nat) u v k, j + 1 < m.length → cells[j * 3 + 2]? = some u → cells[(m.length - 1) * 3 + 2]? = some v → u.ownBlock = some k → v.ownBlock ≠ some k
theorem EvO.nil (w : World) (base : Nat) : EvO w base [] [] := ⟨rfl, fun j e h => by simp at h, fun j u v k h => by simp at h⟩
theorem EvO.chg {S : List Nat} {w w' : World} {base : Nat} {cells : List Value} {m : List Ev} (h : EvO w base cells m) (hc : Chg S w w')
    (hS : ∀ (j : Nat) u k, cells[j * 3 + 2]? = some u → u.ownBlock = some k → (∃ cs, w.heap[k]? = some (.cells cs 5 (0, 0))) → k ∉ S) : EvO w' base cells m := by
  refine ⟨h.1, fun j e hj => ?_, h.2.2⟩
  obtain ⟨t, A, c, h1, h2, h3, h4⟩ := h.2.1 j e hj
  refine ⟨t, A, c, h1, h2, h3, own_chg h4 hc (fun k hk => hS j _ k h3 hk ?_)⟩
  rcases h4.2 with ⟨hv, _⟩ | ⟨g, cap, cur, hv, _, hg, _⟩
  · rw [hv] at hk; simp [Value.ownBlock] at hk
  · rw [hv] at hk; simp [Value.ownBlock] at hk; subst hk; exact ⟨_, hg⟩
theorem EvO.chg0 {w w' : World} {base : Nat} {cells : List Value} {m : List Ev} (h : EvO w base cells m) (hc : Chg [] w w') : EvO w' base cells m := h.chg hc (by simp)
theorem EvO.snoc {w : World} {base : Nat} {cells : List Value} {m : List Ev} (h : EvO w base cells m) (e : Ev) (t : Int) (A : Option Addr) (c : Nat) (hs : w.ownsRow base 5 1 (.slice A e.2.length c) e.2.length (cellsOf .u8 (ns e.2)))
    (hne : ∀ (j : Nat) u k, j < m.length → cells[j * 3 + 2]? = some u → u.ownBlock = some k → (Value.slice A e.2.length c).ownBlock ≠ some k) :
    EvO w base (cells ++ [.int .i64 (dz e.1), .int .i64 t, .slice A e.2.length c]) (m ++ [e]) := by
  have hl := h.1
  have g2 : (cells ++ [.int .i64 (dz e.1), .int .i64 t, .slice A e.2.length c])[m.length * 3 + 2]? = some (.slice A e.2.length c) := by rw [List.getElem?_append_right (by omega), hl]; simp
  refine ⟨by rw [List.length_append, List.length_append, hl, Nat.add_mul]; rfl, fun j e' hj => ?_, fun j u v k hj hu hv => ?_⟩
  · rcases Nat.lt_or_ge j m.length with hlt | hge
    · rw [List.getElem?_append_left hlt] at hj
      obtain ⟨t', A', c', h1, h2, h3, h4⟩ := h.2.1 j e' hj
      exact ⟨t', A', c', by rw [List.getElem?_append_left (by omega)]; exact h1, by rw [List.getElem?_append_left (by omega)]; exact h2, by rw [List.getElem?_append_left (by omega)]; exact h3, h4⟩
    · rw [List.getElem?_append_right hge] at hj
      obtain ⟨hj0, rfl⟩ : j - m.length = 0 ∧ e = e' := by
        rcases Nat.eq_zero_or_pos (j - m.length) with h0 | h0
        · rw [h0] at hj; exact ⟨h0, by simpa using hj⟩
        · rw [List.getElem?_eq_none (by simp; omega)] at hj; cases hj
      obtain rfl : j = m.length := by omega
      refine ⟨t, A, c, ?_, ?_, g2, hs⟩
      · rw [List.getElem?_append_right (by omega), hl]; simp
      · rw [List.getElem?_append_right (by omega), hl]; simp
  · rw [List.length_append, List.length_singleton, Nat.add_sub_cancel, g2] at hv
    cases hv
    rw [List.length_append, List.length_singleton] at hj
    rw [List.getElem?_append_left (by omega)] at hu
    exact hne j u k (by omega) hu
/-- More bytes to the last event. -/
theorem EvO.last {w : World} {base : Nat} {cells : List Value} {m : List Ev} {d : Bool} {x : List UInt8} {A0 : Option Addr} {c0 : Nat} (h : EvO w base cells (m ++ [(d, x)])) (h0 : cells[m.length * 3 + 2]? = some (.slice A0 x.length c0)) (w' : World) (y : List UInt8) (A : Option Addr) (c : Nat)
    (hC : Chg (Value.slice A0 x.length c0).ownBlock.toList w w') (hs : w'.ownsRow base 5 1 (.slice A (x ++ y).length c) (x ++ y).length (cellsOf .u8 (ns (x ++ y))))
    (hat : (Value.slice A (x ++ y).length c).ownBlock = (Value.slice A0 x.length c0).ownBlock ∨ ∀ q, (Value.slice A (x ++ y).length c).ownBlock = some q → w.heap.size ≤ q) :
    EvO w' base (cells.set (m.length * 3 + 2) (.slice A (x ++ y).length c)) (m ++ [(d, x ++ y)]) := by
  have hl := h.1
  rw [List.length_append, List.length_singleton] at hl
  have hap := h.2.2
  rw [List.length_append, List.length_singleton, Nat.add_sub_cancel] at hap
  have old : ∀ (j : Nat) (e' : Ev), j < m.length → (m ++ [(d, x)])[j]? = some e' → ∃ t A' c', cells[j * 3]? = some (.int .i64 (dz e'.1)) ∧ cells[j * 3 + 1]? = some (.int .i64 t) ∧ cells[j * 3 + 2]? = some (.slice A' e'.2.length c') ∧ w'.ownsRow base 5 1 (.slice A' e'.2.length c') e'.2.length (cellsOf .u8 (ns e'.2)) ∧ ∀ k, (Value.slice A' e'.2.length c').ownBlock = some k → (Value.slice A0 x.length c0).ownBlock ≠ some k ∧ k < w.heap.size := by
    intro j e' hj he
    obtain ⟨t, A', c', h1, h2, h3, h4⟩ := h.2.1 j e' he
    have hk : ∀ k, (Value.slice A' e'.2.length c').ownBlock = some k → (Value.slice A0 x.length c0).ownBlock ≠ some k ∧ k < w.heap.size := fun k hk => ⟨hap j _ _ k (by omega) h3 h0 hk, (own_lt' h4 k hk).2⟩
    exact ⟨t, A', c', h1, h2, h3, own_chg h4 hC (fun k hq hm => (hk k hq).1 (by simpa using hm)), hk⟩
  refine ⟨by rw [List.length_set, List.length_append, List.length_singleton]; exact hl, fun j e' hj => ?_, fun j u v k hj hu hv hk => ?_⟩
  · rcases Nat.lt_or_ge j m.length with hlt | hge
    · rw [List.getElem?_append_left hlt] at hj
      obtain ⟨t, A', c', h1, h2, h3, h4, -⟩ := old j e' hlt (by rw [List.getElem?_append_left hlt]; exact hj)
      exact ⟨t, A', c', by rw [List.getElem?_set_ne (by omega)]; exact h1, by rw [List.getElem?_set_ne (by omega)]; exact h2, by rw [List.getElem?_set_ne (by omega)]; exact h3, h4⟩
    · rw [List.getElem?_append_right hge] at hj
      obtain ⟨hj0, rfl⟩ : j - m.length = 0 ∧ (d, x ++ y) = e' := by
        rcases Nat.eq_zero_or_pos (j - m.length) with h0 | h0
        · rw [h0] at hj; exact ⟨h0, by simpa using hj⟩
        · rw [List.getElem?_eq_none (by simp; omega)] at hj; cases hj
      obtain rfl : j = m.length := by omega
      obtain ⟨t, A', c', h1, h2, -⟩ := h.2.1 m.length (d, x) (by simp)
      refine ⟨t, A, c, by rw [List.getElem?_set_ne (by omega)]; exact h1, by rw [List.getElem?_set_ne (by omega)]; exact h2, ?_, hs⟩
      rw [List.getElem?_set_self (by omega)]
  · have e9 : (m ++ [(d, x ++ y)]).length = m.length + 1 := by simp
    rw [e9] at hj
    rw [e9, Nat.add_sub_cancel, List.getElem?_set_self (by omega)] at hv
    cases hv
    rw [List.getElem?_set_ne (by omega)] at hu
    obtain ⟨t, A', c', -, -, h3, -, h5⟩ := old j _ (by omega) (List.getElem?_eq_getElem (by simp; omega))
    rw [hu] at h3
    cases h3
    obtain ⟨h6, h7⟩ := h5 k hk
    rcases hat with hat | hat
    · rw [hat]; exact h6
    · intro h8; have := hat k h8; omega
end Ev_
end Go.Proofs.YtncoedoiakaedaaDoor
