/- Rows of bytes, each of the call's own, no two in one block: a turn's two rows, and how they grow. No condition. -/
import Derived.Test.YtncoedoiakaedaaDoorGenK
set_option linter.unusedVariables false
set_option linter.unusedSimpArgs false
namespace Go.Proofs.YtncoedoiakaedaaDoor
open Go.RowKit Tail Turn Tl Ev_
namespace Ow
def flat (ts : List Tn) : List (List UInt8) := (ts.map (fun t => [t.1, t.2])).flatten
theorem flat_len (ts : List Tn) : (flat ts).length = ts.length * 2 := by
  unfold flat
  induction ts with
  | nil => rfl
  | cons t ts ih => simp only [List.map_cons, List.flatten_cons, List.length_append, List.length_cons, List.length_nil] at ih ⊢; omega
theorem flat_snoc (ts : List Tn) (t : Tn) : flat (ts ++ [t]) = flat ts ++ [t.1, t.2] := by unfold flat; simp
theorem flat_get {ts : List Tn} {j : Nat} {t : Tn} (h : ts[j]? = some t) : (flat ts)[j * 2]? = some t.1 ∧ (flat ts)[j * 2 + 1]? = some t.2 := by
  obtain ⟨hj, he⟩ := List.getElem?_eq_some_iff.1 h
  have e : ts = ts.take j ++ [t] ++ ts.drop (j + 1) := by rw [← he, List.append_assoc]; simp
  have e2 : flat ts = flat (ts.take j) ++ ([t.1, t.2] ++ flat (ts.drop (j + 1))) := by
    conv => lhs; rw [e]
    unfold flat
    simp
  have hl : (flat (ts.take j)).length = j * 2 := by rw [flat_len, List.length_take]; omega
  rw [e2]
  constructor
  · rw [List.getElem?_append_right (by omega), hl]; simp
  · rw [List.getElem?_append_right (by omega), hl]; simp
/-- Each cell is a row of the call's own that reads as its text; no two share a block. -/
def Rw (w : World) (base : Nat) (cells : List Value) (xs : List (List UInt8)) : Prop :=
  cells.length = xs.length ∧ (∀ (j : Nat) (x : List UInt8), xs[j]? = some x → ∃ A c, cells[j]? = some (.slice A x.length c) ∧ w.ownsRow base 5 1 (.slice A x.length c) x.length (cellsOf .u8 (ns x))) ∧
    ∀ (p q : Nat) (u v : Value) (k : Nat), p ≠ q → cells[p]? = some u → cells[q]? = some v → u.ownBlock = some k → v.ownBlock ≠ some k
theorem Rw.nil (w : World) (base : Nat) : Rw w base [] [] := ⟨rfl, fun j x h => by simp at h, fun p q u v k _ h => by simp at h⟩
theorem Rw.typ {w : World} {base : Nat} {cells : List Value} {xs : List (List UInt8)} (h : Rw w base cells xs) {j : Nat} {u : Value} {k : Nat} (hu : cells[j]? = some u) (hk : u.ownBlock = some k) : (∃ cs, w.heap[k]? = some (.cells cs 5 (0, 0))) ∧ base ≤ k ∧ k < w.heap.size := by
  have hj := (List.getElem?_eq_some_iff.1 hu).1
  obtain ⟨A, c, h1, h2⟩ := h.2.1 j _ (List.getElem?_eq_getElem (by rw [← h.1]; exact hj))
  rw [hu] at h1
  cases h1
  exact ⟨own_typ h2 k hk, own_lt' h2 k hk⟩
theorem Rw.chg {S : List Nat} {w w' : World} {base : Nat} {cells : List Value} {xs : List (List UInt8)} (h : Rw w base cells xs) (hc : Chg S w w') (hS : ∀ k cs, w.heap[k]? = some (.cells cs 5 (0, 0)) → base ≤ k → k ∉ S) : Rw w' base cells xs := by
  refine ⟨h.1, fun j x hj => ?_, h.2.2⟩
  obtain ⟨A, c, h1, h2⟩ := h.2.1 j x hj
  refine ⟨A, c, h1, own_chg h2 hc (fun k hk => ?_)⟩
  obtain ⟨⟨cs, hcs⟩, hb, -⟩ := h.typ h1 hk
  exact hS k cs hcs hb
theorem Rw.chg0 {w w' : World} {base : Nat} {cells : List Value} {xs : List (List UInt8)} (h : Rw w base cells xs) (hc : Chg [] w w') : Rw w' base cells xs := h.chg hc (by simp)
theorem get_two {α : Type} {a b x : α} {j : Nat} (h : [a, b][j]? = some x) : (j = 0 ∧ x = a) ∨ (j = 1 ∧ x = b) := by
  match j, h with
  | 0, h => left; simpa using h.symm
  | 1, h => right; simpa using h.symm
  | j + 2, h => simp at h
theorem Rw.push {w : World} {base : Nat} {cells : List Value} {xs : List (List UInt8)} (h : Rw w base cells xs) : Rw w base (cells ++ [.slice none 0 0, .slice none 0 0]) (xs ++ [[], []]) := by
  have hl := h.1
  have key : ∀ (p : Nat) (u : Value) (k : Nat), (cells ++ [Value.slice none 0 0, .slice none 0 0])[p]? = some u → u.ownBlock = some k → cells[p]? = some u := by
    intro p u k hu hk
    rcases Nat.lt_or_ge p cells.length with hlt | hge
    · rwa [List.getElem?_append_left hlt] at hu
    · rw [List.getElem?_append_right hge] at hu
      rcases get_two hu with ⟨-, rfl⟩ | ⟨-, rfl⟩ <;> simp [Value.ownBlock] at hk
  refine ⟨by simp [hl], fun j x hj => ?_, fun p q u v k hpq hu hv hk hk2 => h.2.2 p q u v k hpq (key p u k hu hk) (key q v k hv hk2) hk hk2⟩
  rcases Nat.lt_or_ge j xs.length with hlt | hge
  · rw [List.getElem?_append_left hlt] at hj
    obtain ⟨A, c, h1, h2⟩ := h.2.1 j x hj
    exact ⟨A, c, by rw [List.getElem?_append_left (by omega)]; exact h1, h2⟩
  · rw [List.getElem?_append_right hge] at hj
    rcases get_two hj with ⟨h0, rfl⟩ | ⟨h0, rfl⟩
    · exact ⟨none, 0, by rw [List.getElem?_append_right (by omega), hl, h0]; rfl, World.ownsRow_nil _ _ _ _⟩
    · exact ⟨none, 0, by rw [List.getElem?_append_right (by omega), hl, h0]; rfl, World.ownsRow_nil _ _ _ _⟩
theorem Rw.grow {w w' : World} {base : Nat} {cells : List Value} {xs : List (List UInt8)} (h : Rw w base cells xs) {p : Nat} {x z : List UInt8} {A0 A : Option Addr} {c0 c : Nat} (hx : xs[p]? = some x) (h0 : cells[p]? = some (.slice A0 x.length c0)) (hC : Chg (Value.slice A0 x.length c0).ownBlock.toList w w')
    (hs : w'.ownsRow base 5 1 (.slice A z.length c) z.length (cellsOf .u8 (ns z))) (hat : (Value.slice A z.length c).ownBlock = (Value.slice A0 x.length c0).ownBlock ∨ ∀ q, (Value.slice A z.length c).ownBlock = some q → w.heap.size ≤ q) :
    Rw w' base (cells.set p (.slice A z.length c)) (xs.set p z) := by
  have hl := h.1
  have hp := (List.getElem?_eq_some_iff.1 hx).1
  refine ⟨by simp [hl], fun j y hj => ?_, fun a b u v k hab hu hv hk hk2 => ?_⟩
  · by_cases hjp : p = j
    · subst hjp
      rw [List.getElem?_set_self hp] at hj
      cases hj
      exact ⟨A, c, by rw [List.getElem?_set_self (by omega)], hs⟩
    · rw [List.getElem?_set_ne hjp] at hj
      obtain ⟨A', c', h1, h2⟩ := h.2.1 j y hj
      exact ⟨A', c', by rw [List.getElem?_set_ne hjp]; exact h1, own_chg h2 hC (fun k hk hm => h.2.2 p j _ _ k hjp h0 h1 (by simpa using hm) hk)⟩
  · have key : ∀ {j : Nat} {u : Value}, p ≠ j → (cells.set p (.slice A z.length c))[j]? = some u → u.ownBlock = some k → (Value.slice A z.length c).ownBlock ≠ some k := by
      intro j u hjp hu hk hm
      rw [List.getElem?_set_ne hjp] at hu
      rcases hat with hat | hat
      · exact h.2.2 p j _ _ k hjp h0 hu (by rw [← hat]; exact hm) hk
      · have h1 := hat k hm
        have h2 := (h.typ hu hk).2.2
        omega
    by_cases hap : p = a
    · subst hap
      rw [List.getElem?_set_self (by omega)] at hu
      cases hu
      exact key hab hv hk2 hk
    · by_cases hbp : p = b
      · subst hbp
        rw [List.getElem?_set_self (by omega)] at hv
        cases hv
        exact key hap hu hk hk2
      · rw [List.getElem?_set_ne hap] at hu
        rw [List.getElem?_set_ne hbp] at hv
        exact h.2.2 a b u v k hab hu hv hk hk2
end Ow
end Go.Proofs.YtncoedoiakaedaaDoor
