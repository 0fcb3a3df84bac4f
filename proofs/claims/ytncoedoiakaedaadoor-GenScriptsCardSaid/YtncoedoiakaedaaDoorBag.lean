/- Rows of texts in memory: how they grow by one. No condition. -/
import Derived.Test.YtncoedoiakaedaaDoorTailP
set_option linter.unusedVariables false
set_option linter.unusedSimpArgs false
namespace Go.Proofs.YtncoedoiakaedaaDoor
open Go.RowKit Tail
namespace Tl
theorem Tryd.info_bs : (Tryd.prog.info? 35).map (fun i => (i.zero, i.size, i.bytes)) = some (some (Value.slice none 0 0), 1, 24) := by kernel_rfl
/-- A slice of texts: its cells, and what each reads as; no text lies in the row's own block. -/
def BagC (ok : Nat → Prop) (w : World) (base : Nat) (v : Value) (l : List (List UInt8)) (cells : List Value) : Prop :=
  w.ownsRow base 35 1 v l.length cells ∧ ∀ (j : Nat) (x : List UInt8), l[j]? = some x → ∃ A c, cells[j]? = some (.slice A x.length c) ∧ Sl w 1 (.slice A x.length c) x.length (cellsOf .u8 (ns x)) ∧ (0 < x.length → ∀ k, (Value.slice A x.length c).ownBlock = some k → v.ownBlock ≠ some k ∧ ok k)
def Bag (ok : Nat → Prop) (w : World) (base : Nat) (v : Value) (l : List (List UInt8)) : Prop := ∃ cells, BagC ok w base v l cells
theorem bag_nil (ok : Nat → Prop) (w : World) (base : Nat) : BagC ok w base (Value.slice none 0 0) [] [] := ⟨World.ownsRow_nil _ _ _ _, by intro j x h; simp at h⟩
theorem own_lt' {w : World} {base : Nat} {e : TypeId} {size n : Nat} {v : Value} {xs : List Value} (h : w.ownsRow base e size v n xs) : ∀ k, v.ownBlock = some k → base ≤ k ∧ k < w.heap.size := by
  intro k hk
  rcases h.2 with ⟨rfl, _⟩ | ⟨g, cap, cur, rfl, hg, hh, r⟩
  · simp [Value.ownBlock] at hk
  · have : g = k := by simpa [Value.ownBlock] using hk
    subst this
    exact ⟨hg, lt_heap hh⟩
theorem BagC.chg {ok : Nat → Prop} {w w' : World} {base : Nat} {v : Value} {l : List (List UInt8)} {cells : List Value} (h : BagC ok w base v l cells) (hC : Chg [] w w') : BagC ok w' base v l cells := by
  refine ⟨own_chg h.1 hC (by simp), fun j x hj => ?_⟩
  obtain ⟨A, c, h1, h2, h3⟩ := h.2 j x hj
  exact ⟨A, c, h1, h2.chg hC (by simp), h3⟩
theorem BagC.snoc {ok : Nat → Prop} {w w' : World} {base : Nat} {v v' : Value} {l : List (List UInt8)} {cells : List Value} (h : BagC ok w base v l cells) {x : List UInt8} {A : Option Addr} {c : Nat}
    (hx : Sl w 1 (.slice A x.length c) x.length (cellsOf .u8 (ns x))) (hne : 0 < x.length → ∀ k, (Value.slice A x.length c).ownBlock = some k → v.ownBlock ≠ some k ∧ ok k)
    (ho : w'.ownsRow base 35 1 v' (l.length + 1) (cells ++ [.slice A x.length c])) (hC : Chg v.ownBlock.toList w w') (hat : v'.ownBlock = v.ownBlock ∨ ∀ q, v'.ownBlock = some q → w.heap.size ≤ q) :
    BagC ok w' base v' (l ++ [x]) (cells ++ [.slice A x.length c]) := by
  have hl : cells.length = l.length := by have := h.1.1; omega
  have hk : ∀ {y : List UInt8} {B : Option Addr} {d : Nat}, Sl w 1 (.slice B y.length d) y.length (cellsOf .u8 (ns y)) → (0 < y.length → ∀ k, (Value.slice B y.length d).ownBlock = some k → v.ownBlock ≠ some k ∧ ok k) →
      Sl w' 1 (.slice B y.length d) y.length (cellsOf .u8 (ns y)) ∧ (0 < y.length → ∀ k, (Value.slice B y.length d).ownBlock = some k → v'.ownBlock ≠ some k ∧ ok k) := by
    intro y B d hy hn
    refine ⟨hy.chg hC (fun hp k hk hm => (hn (by simpa using hp) k hk).1 (by simpa using hm)), fun hp k hk => ⟨?_, (hn hp k hk).2⟩⟩
    rcases hat with hat | hat
    · rw [hat]; exact (hn hp k hk).1
    · intro hv
      have h1 := hat k hv
      have h2 := hy.lt hp k hk
      omega
  refine ⟨by rw [List.length_append]; exact ho, fun j y hj => ?_⟩
  rcases Nat.lt_or_ge j l.length with hlt | hge
  · rw [List.getElem?_append_left hlt] at hj
    obtain ⟨B, d, h1, h2, h3⟩ := h.2 j y hj
    obtain ⟨h4, h5⟩ := hk h2 h3
    exact ⟨B, d, by rw [List.getElem?_append_left (by omega)]; exact h1, h4, h5⟩
  · rw [List.getElem?_append_right hge] at hj
    obtain ⟨hj0, rfl⟩ : j - l.length = 0 ∧ x = y := by
      rcases Nat.eq_zero_or_pos (j - l.length) with h0 | h0
      · rw [h0] at hj; exact ⟨h0, by simpa using hj⟩
      · rw [List.getElem?_eq_none (by simp; omega)] at hj; cases hj
    obtain ⟨h4, h5⟩ := hk hx hne
    exact ⟨A, c, by rw [List.getElem?_append_right (by omega), show j - cells.length = 0 by omega]; rfl, h4, h5⟩
theorem BagC.sl {ok : Nat → Prop} {w : World} {base : Nat} {v : Value} {l : List (List UInt8)} {cells : List Value} (h : BagC ok w base v l cells) : Sl w 1 v l.length cells := own_sl h.1
theorem size_alloc (w : World) (o : Obj) : (w.alloc o).heap.size = w.heap.size + 1 := Array.size_push ..
theorem ns_drop (t : List UInt8) (i : Nat) : (ns t).drop i = ns (t.drop i) := by unfold ns; rw [List.map_drop]
theorem ns_take (t : List UInt8) (i : Nat) : (ns t).take i = ns (t.take i) := by unfold ns; rw [List.map_take]
end Tl
end Go.Proofs.YtncoedoiakaedaaDoor
