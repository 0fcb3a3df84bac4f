/- Generic lemmas, second part. No condition. -/
import Derived.Test.YtncoedoiakaedaaDoorLib
set_option linter.unusedVariables false
set_option linter.unusedSimpArgs false
namespace Go.Proofs.YtncoedoiakaedaaDoor
open Go.RowKit

/-- What the frame tells of a slice of whole numbers that came in. -/
theorem sl_of_row {k : IntKind} {w : World} {a : Option Addr} {len cap : Nat} {zs : List Int}
    (h : (a = none ∧ len = 0 ∧ cap = 0 ∧ zs = []) ∨
      ∃ x, a = some x ∧ len ≤ cap ∧ cap ≤ maxLen ∧ zs.length = cap ∧ (∀ i, i < zs.length → w.cell? (x.add i) = some (.int k (zs.getD i 0))) ∧ ∀ n ∈ zs, (Lit.int k n).wf = true) :
    Sl w 1 (.slice a len cap) len (cellsOf k (zs.take len)) ∧ (zs.take len).length = len ∧ (∀ n ∈ zs.take len, (Lit.int k n).wf = true) := by
  rcases h with ⟨rfl, rfl, rfl, rfl⟩ | ⟨x, rfl, h1, h2, h3, h4, h5⟩
  · exact ⟨Sl.nil _ _, rfl, by simp⟩
  · have hl : (zs.take len).length = len := by simp; omega
    refine ⟨⟨_, cap, rfl, by simp, h1, h2, by simp; omega, fun _ => ⟨x, rfl, fun j u hu => ?_⟩⟩, hl, fun n hn => h5 n (List.mem_of_mem_take hn)⟩
    have hj : j < (zs.take len).length := by have := (List.getElem?_eq_some_iff.1 hu).1; simpa using this
    rw [cellsOf_get hj] at hu
    rw [h4 j (by omega), ← hu]
    simp [List.getD, List.getElem?_eq_getElem (show j < zs.length by omega)]

/-- `s[:min(len(s), M)]`. -/
theorem cut_to {P : Program} (t e : TypeId) (ht : P.underlying t = some (.slice e)) {z : Value} {size bytes : Nat} (hi : (P.info? e).map (fun i => (i.zero, i.size, i.bytes)) = some (some z, size, bytes))
    {w : World} {A : Option Addr} {n c : Nat} {xs : List Value} (h : Sl w size (.slice A n c) n xs) (M : Int) (hM : 0 ≤ M) :
    ∃ k : Nat, k = min n M.toNat ∧
      (∀ w' : World, (Instr.slice t (.slice A n c) none (some (.int .i64 (if M < n then M else n))) none).run P w' = .ok (.slice A k c) w') ∧ Sl w size (.slice A k c) k (xs.take (k * size)) ∧ (Value.slice A k c).ownBlock = (Value.slice A n c).ownBlock := by
  by_cases hn : M < (n : Int)
  · obtain ⟨h1, h2, h3⟩ := slice_upto t e ht hi h M (by omega) M.toNat (by omega) (by omega)
    exact ⟨M.toNat, by omega, by rw [if_pos hn]; exact h1, h2, h3⟩
  · obtain ⟨h1, h2, h3⟩ := slice_upto t e ht hi h n (by omega) n rfl (Nat.le_refl _)
    exact ⟨n, by omega, by rw [if_neg hn]; exact h1, h2, h3⟩
/-- `s[i:j]` as one run equation: the value is some slice. -/
theorem slice_mid {P : Program} (t e : TypeId) (ht : P.underlying t = some (.slice e)) {z : Value} {size bytes : Nat} (hi : (P.info? e).map (fun i => (i.zero, i.size, i.bytes)) = some (some z, size, bytes))
    {w : World} {A : Option Addr} {n c : Nat} {xs : List Value} (h : Sl w size (.slice A n c) n xs) (i j : Int) (h0 : 0 ≤ i) (h1 : i ≤ j) (h2 : j ≤ n) (n' : Nat) (h3 : i + n' = j) :
    ∃ A' c', (∀ w' : World, (Instr.slice t (.slice A n c) (some (.int .i64 i)) (some (.int .i64 j)) none).run P w' = .ok (.slice A' n' c') w') ∧ Sl w size (.slice A' n' c') n' ((xs.take (j.toNat * size)).drop (i.toNat * size)) ∧ (Value.slice A' n' c').ownBlock = (Value.slice A n c).ownBlock := by
  have he : P.elem t = e := by simp [Program.elem, ht]
  have hn : n ≤ c := by obtain ⟨A0, c0, e0, _, h, _⟩ := h; simp at e0; omega
  obtain rfl : n' = j.toNat - i.toNat := by omega
  refine ⟨if c = i.toNat then A else A.map (·.add (i.toNat * size)), c - i.toNat, fun w' => ?_, (h.upto j.toNat (by omega)).from i.toNat (by omega) _ rfl, ?_⟩
  · rw [run_slice_lh w' t A n c (by rw [he]; exact ht) .i64 .i64 i j h0 h1 (by omega)]
    obtain ⟨i0, hi0, hz⟩ := Option.map_eq_some_iff.1 hi
    simp only [Prod.mk.injEq] at hz
    rw [he]
    simp [sizeOf, typeInfo, hi0, Result.andThen, sliced, hz.2.1]
  · cases A with
    | none => simp [Value.ownBlock]
    | some a =>
      have : (a.add (i.toNat * size)).block = a.block := by unfold Addr.add; split <;> rfl
      split <;> simp [Value.ownBlock, this]
theorem Sl.at {w : World} {A : Option Addr} {k : IntKind} {n c : Nat} {xs : List Int} (h : Sl w 1 (.slice A n c) n (cellsOf k xs)) (j : Nat) (hj : j < n) :
    ∃ b o x, A = some ⟨b, o, none⟩ ∧ xs[j]? = some x ∧ w.cell? ⟨b, o + j, none⟩ = some (.int k x) := by
  have hl : xs.length = n := by have := h.len; simpa using this
  obtain ⟨A0, c0, e0, h0, h1, h2, h3, h4⟩ := h
  obtain ⟨rfl, rfl⟩ : A0 = A ∧ c0 = c := by simp at e0; exact ⟨e0.1.symm, e0.2.symm⟩
  obtain ⟨ad, rfl, hr⟩ := h4 (by simp; omega)
  have hspot : ad.spot = none := by
    have := hr 0 _ (cellsOf_get (by omega))
    exact World.cell?_spot (a := ad) (by simpa [Addr.add] using this)
  obtain ⟨b, off, spot⟩ := ad
  simp only at hspot
  subst hspot
  refine ⟨b, off, xs[j], rfl, by simp [hl, hj], ?_⟩
  have := hr j _ (cellsOf_get (by omega))
  have ha : (⟨b, off, none⟩ : Addr).add j = ⟨b, off + j, none⟩ := by unfold Addr.add; split <;> simp_all
  rwa [ha] at this
theorem Sl.lt {w : World} {A : Option Addr} {n c : Nat} {xs : List Value} (h : Sl w 1 (.slice A n c) n xs) : 0 < n → ∀ q, (Value.slice A n c).ownBlock = some q → q < w.heap.size := by
  intro hn q hq
  obtain ⟨k, hk, hlt⟩ := h.block (by have := h.len; omega)
  rw [hq] at hk; simp at hk; omega
end Go.Proofs.YtncoedoiakaedaaDoor
