/- Where rows lie. No condition. -/
import Derived.Test.YtakcolililbkjaaTclBr
import Derived.Test.YtakcolililbkjaaPlSpec
set_option linter.unusedVariables false
set_option linter.unusedSimpArgs false
namespace Go.Proofs.Ytakcolililbkjaa
namespace Pl
open Go.RowKit Tcl
/-- Where a row that isn't empty lies. -/
theorem sl_row {w : World} {size : Nat} {A : Option Addr} {n c : Nat} {xs : List Value} (h : Sl w size (.slice A n c) n xs) (hx : 0 < xs.length) :
    ∃ b o, A = some ⟨b, o, none⟩ ∧ ∀ j u, xs[j]? = some u → w.cell? ⟨b, o + j, none⟩ = some u := by
  obtain ⟨A0, c0, e0, h0, h1, h2, h3, h4⟩ := h
  obtain ⟨rfl, rfl⟩ : A0 = A ∧ c0 = c := by simp at e0; exact ⟨e0.1.symm, e0.2.symm⟩
  obtain ⟨ad, rfl, hr⟩ := h4 hx
  have hspot : ad.spot = none := by
    have := hr 0 _ (List.getElem?_eq_getElem hx)
    exact World.cell?_spot (a := ad) (by simpa [Addr.add] using this)
  obtain ⟨b, off, spot⟩ := ad
  simp only at hspot
  subst hspot
  refine ⟨b, off, rfl, fun j u hu => ?_⟩
  have := hr j _ hu
  have ha : (⟨b, off, none⟩ : Addr).add j = ⟨b, off + j, none⟩ := by unfold Addr.add; split <;> simp_all
  rwa [ha] at this
theorem parts_pos {l : List Part} (h : 0 < (partsCells l).length) : 0 < l.length := by
  cases l with
  | nil => simp [partsCells] at h
  | cons p r => simp
theorem parts_pos' {l : List Part} (h : 0 < l.length) : 0 < (partsCells l).length := by
  cases l with
  | nil => simp at h
  | cons p r => simp [partsCells, partCells]
theorem parts_get (l : List Part) : ∀ (k : Nat) (p : Part), l[k]? = some p → (partsCells l)[k * 2]? = some (.bool p.var) ∧ (partsCells l)[k * 2 + 1]? = some (.string (bstr p.s)) := by
  induction l with
  | nil => intro k p h; simp at h
  | cons x l ih =>
    intro k p h
    cases k with
    | zero => simp at h; subst h; exact ⟨rfl, rfl⟩
    | succ k =>
      have := ih k p (by simpa using h)
      have e : partsCells (x :: l) = .bool x.var :: .string (bstr x.s) :: partsCells l := rfl
      rw [e, show (k + 1) * 2 = k * 2 + 1 + 1 by omega]
      exact this
theorem parts_at {w : World} {A : Option Addr} {n c : Nat} {ps : List Part} (h : PartsAt w (.slice A n c) ps) (hn : 0 < ps.length) :
    ∃ b o, A = some ⟨b, o, none⟩ ∧ ∀ k p, ps[k]? = some p → w.cell? ⟨b, o + k * 2, none⟩ = some (.bool p.var) ∧ w.cell? ⟨b, o + (k * 2 + 1), none⟩ = some (.string (bstr p.s)) := by
  obtain ⟨A0, c0, e0, h1⟩ := id h
  simp only [Value.slice.injEq] at e0
  obtain ⟨rfl, rfl, rfl⟩ := e0
  obtain ⟨b, o, rfl, hr⟩ := sl_row h (parts_pos' hn)
  refine ⟨b, o, rfl, fun k p hk => ?_⟩
  have hg := parts_get ps k p hk
  exact ⟨hr _ _ hg.1, hr _ _ hg.2⟩
end Pl
end Go.Proofs.Ytakcolililbkjaa
