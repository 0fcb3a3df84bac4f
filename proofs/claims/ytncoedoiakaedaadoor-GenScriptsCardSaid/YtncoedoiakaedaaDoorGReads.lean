/- Events that came in. No condition. -/
import Derived.Test.YtncoedoiakaedaaDoorEvs
import Derived.Test.YtncoedoiakaedaaDoorTclU8
set_option linter.unusedVariables false
set_option linter.unusedSimpArgs false
namespace Go.Proofs.YtncoedoiakaedaaDoor
open Go.RowKit Turn Tl
namespace Ev_
theorem u8s_eq (l : List UInt8) : u8s l = cellsOf .u8 (ns l) := by unfold u8s cellsOf ns; rw [List.map_map]; rfl
/-- The cells of the events. -/
def evCells : List (Int × Int × Option Addr × List UInt8 × Nat) → List Value
  | [] => []
  | x :: r => .int .i64 x.1 :: .int .i64 x.2.1 :: .slice x.2.2.1 x.2.2.2.1.length x.2.2.2.2 :: evCells r
theorem evCells_len : ∀ l, (evCells l).length = l.length * 3
  | [] => rfl
  | x :: r => by simp only [evCells, List.length_cons, evCells_len r]; omega
theorem evCells_get : ∀ (l : List (Int × Int × Option Addr × List UInt8 × Nat)) (i : Nat) x, l[i]? = some x → (evCells l)[i * 3]? = some (.int .i64 x.1) ∧ (evCells l)[i * 3 + 1]? = some (.int .i64 x.2.1) ∧ (evCells l)[i * 3 + 2]? = some (.slice x.2.2.1 x.2.2.2.1.length x.2.2.2.2)
  | [], i, x, h => by simp at h
  | y :: r, 0, x, h => by simp at h; subst h; exact ⟨rfl, rfl, rfl⟩
  | y :: r, i + 1, x, h => by
    have := evCells_get r i x (by simpa using h)
    have e : (i + 1) * 3 = i * 3 + 3 := by omega
    rw [e]
    exact this
theorem evs_of_reads {w : World} {v : Value} {d : Dt} (h : Reads w (.sl [.int .i64, .int .i64, .sl [.int .u8]]) v d) : ∃ A c evs cells, v = .slice A (List.length evs) c ∧ Sl w 3 v (List.length evs) cells ∧ EvC w cells evs ∧ (List.length evs) ≤ c ∧ c ≤ maxLen := by
  cases h with
  | @sl fs A n c rows u h0 h1 h2 hl hw hc hr =>
    have key : ∀ i, i < n → ∃ x : Int × Int × Option Addr × List UInt8 × Nat, u i 0 = .int .i64 x.1 ∧ u i 1 = .int .i64 x.2.1 ∧ u i 2 = .slice x.2.2.1 x.2.2.2.1.length x.2.2.2.2 ∧ Sl w 1 (.slice x.2.2.1 x.2.2.2.1.length x.2.2.2.2) x.2.2.2.1.length (cellsOf .u8 (ns x.2.2.2.1)) := fun i hi => by
      obtain ⟨row, hr1, hr2⟩ := hw i hi
      match row, hr2 with
      | [d0, d1, d2], _ =>
        obtain ⟨x0, e0, -⟩ := i64_of_reads (hr i 0 _ _ d0 hr1 rfl rfl)
        obtain ⟨x1, e1, -⟩ := i64_of_reads (hr i 1 _ _ d1 hr1 rfl rfl)
        obtain ⟨A2, c2, b2, e2, s2, -⟩ := u8s_of_reads (hr i 2 _ _ d2 hr1 rfl rfl)
        rw [e2, u8s_eq] at s2
        exact ⟨(x0, x1, A2, b2, c2), e0, e1, e2, s2⟩
    obtain ⟨xs, hb1, hb2⟩ := exists_rows n _ key
    subst hb1
    have hlen : (xs.map fun x => ((x.1, x.2.2.2.1) : EI)).length = xs.length := List.length_map ..
    have hS : Sl w 3 (.slice A xs.length c) xs.length (evCells xs) := by
      refine ⟨A, c, rfl, h0, h1, h2, evCells_len xs, fun hx => ?_⟩
      rw [evCells_len] at hx
      obtain ⟨a, ha, _⟩ := hc 0 0 (by omega) (by simp)
      refine ⟨a, ha, fun j x hj => ?_⟩
      have hjl : j < xs.length * 3 := by have := (List.getElem?_eq_some_iff.1 hj).1; rwa [evCells_len] at this
      have hi : j / 3 < xs.length := by omega
      have hk := evCells_get xs (j / 3) _ (List.getElem?_eq_getElem hi)
      have hu := hb2 (j / 3) _ (List.getElem?_eq_getElem hi)
      obtain ⟨a', ha', hc'⟩ := hc (j / 3) (j % 3) hi (by simp; omega)
      rw [ha] at ha'; cases ha'
      have e3 : j / 3 * [Sh.int IntKind.i64, Sh.int IntKind.i64, Sh.sl [Sh.int IntKind.u8]].length + j % 3 = j := by show j / 3 * 3 + j % 3 = j; omega
      rw [e3] at hc'
      rw [hc']
      have h3 : j % 3 = 0 ∨ j % 3 = 1 ∨ j % 3 = 2 := by omega
      rcases h3 with h3 | h3 | h3
      · rw [h3, hu.1, ← hk.1, ← hj]; congr 1; omega
      · rw [h3, hu.2.1, ← hk.2.1, ← hj]; congr 1; omega
      · rw [h3, hu.2.2.1, ← hk.2.2, ← hj]; congr 1; omega
    refine ⟨A, c, xs.map fun x => ((x.1, x.2.2.2.1) : EI), evCells xs, by rw [hlen], by rw [hlen]; exact hS, ⟨by rw [hlen, evCells_len], fun j e hj => ?_⟩, by rw [hlen]; exact h1, h2⟩
    · rw [List.getElem?_map] at hj
      obtain ⟨x, hx, rfl⟩ := Option.map_eq_some_iff.1 hj
      have hk := evCells_get xs j x hx
      have hu := hb2 j x hx
      exact ⟨x.2.1, x.2.2.1, x.2.2.2.2, hk.1, hk.2.1, hk.2.2, hu.2.2.2⟩
end Ev_
end Go.Proofs.YtncoedoiakaedaaDoor
