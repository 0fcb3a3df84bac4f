/- Slices of bytes and of branches that came in; numbers that came in. No condition. -/
import Derived.Test.YtojgdmpnbgikeaaMs
import Derived.Test.YtojgdmpnbgikeaaReads
set_option linter.unusedVariables false
set_option linter.unusedSimpArgs false
namespace Go.Proofs.Ytojgdmpnbgikeaa
open Go.RowKit
namespace Mt
theorem u8_of_reads {w : World} {u : Value} {d : Dt} (h : Reads w (.int .u8) u d) : ∃ c : UInt8, u = .int .u8 c.toNat := by
  cases h with
  | int h =>
    rename_i n
    have h' : IntKind.u8.min ≤ n ∧ n ≤ IntKind.u8.max := by simpa [Lit.wf] using h
    have m1 : IntKind.u8.min = 0 := rfl
    have m2 : IntKind.u8.max = 255 := rfl
    rw [m1, m2] at h'
    refine ⟨UInt8.ofNat n.toNat, ?_⟩
    have : (UInt8.ofNat n.toNat).toNat = n.toNat := by
      show n.toNat % 256 = n.toNat
      omega
    rw [this]; congr 1; omega
theorem i64_of_reads {w : World} {u : Value} {d : Dt} (h : Reads w (.int .i64) u d) : ∃ n : Int, u = .int .i64 n ∧ -9223372036854775808 ≤ n ∧ n ≤ 9223372036854775807 := by
  cases h with
  | int h =>
    rename_i n
    have h' : IntKind.i64.min ≤ n ∧ n ≤ IntKind.i64.max := by simpa [Lit.wf] using h
    have m1 : IntKind.i64.min = -9223372036854775808 := rfl
    have m2 : IntKind.i64.max = 9223372036854775807 := rfl
    rw [m1, m2] at h'
    exact ⟨n, rfl, h'⟩
theorem ns_of_reads {w : World} {v : Value} {d : Dt} (h : Reads w (.sl [.int .u8]) v d) : ∃ A c bs, v = .slice A (List.length bs) c ∧ Sl w 1 v bs.length (cellsOf .u8 (ns bs)) ∧ bs.length ≤ c ∧ c ≤ maxLen := by
  cases h with
  | @sl fs A n c rows u h0 h1 h2 hl hw hc hr =>
    have key : ∀ i, i < n → ∃ b : UInt8, u i 0 = .int .u8 b.toNat := fun i hi => by
      obtain ⟨row, hr1, hr2⟩ := hw i hi
      match row, hr2 with
      | [d0], _ => exact u8_of_reads (hr i 0 _ _ d0 hr1 rfl rfl)
    obtain ⟨bs, hb1, hb2⟩ := exists_rows n (fun i (b : UInt8) => u i 0 = .int .u8 b.toNat) key
    subst hb1
    refine ⟨A, c, bs, rfl, ⟨A, c, rfl, h0, h1, h2, by simp [ns], fun hx => ?_⟩, h1, h2⟩
    obtain ⟨a, ha, _⟩ := hc 0 0 (by simpa [ns] using hx) (by simp)
    refine ⟨a, ha, fun j x hj => ?_⟩
    have hjl : j < bs.length := by have := (List.getElem?_eq_some_iff.1 hj).1; simpa [ns] using this
    obtain ⟨a', ha', hc'⟩ := hc j 0 hjl (by simp)
    rw [ha] at ha'; cases ha'
    have := hb2 j _ (List.getElem?_eq_getElem hjl)
    simp only [List.length_cons, List.length_nil, Nat.zero_add, Nat.mul_one, Nat.add_zero] at hc'
    rw [hc', this]
    simp only [cellsOf, ns, List.getElem?_map, List.getElem?_eq_getElem hjl, Option.map_some] at hj
    exact hj
theorem brs_of_reads {w : World} {v : Value} {d : Dt} (h : Reads w (.sl [.int .i64, .str]) v d) : ∃ A c l, v = .slice A (List.length l) c ∧ Sl w 2 v l.length (brCells l) ∧ l.length ≤ c ∧ c ≤ maxLen ∧ (∀ x ∈ l, x.pat.length ≤ 9223372036854775807) := by
  cases h with
  | @sl fs A n c rows u h0 h1 h2 hl hw hc hr =>
    have key : ∀ i, i < n → ∃ x : Br, u i 0 = .int .i64 x.kind ∧ u i 1 = .string (bs x.pat) ∧ x.pat.length ≤ 9223372036854775807 := fun i hi => by
      obtain ⟨row, hr1, hr2⟩ := hw i hi
      match row, hr2 with
      | [d0, d1], _ =>
        obtain ⟨k, hk, -⟩ := i64_of_reads (hr i 0 _ _ d0 hr1 rfl rfl)
        have h3 := hr i 1 _ _ d1 hr1 rfl rfl
        generalize u i 1 = z at h3
        cases h3 with
        | @str s hs => exact ⟨⟨k, s.data.toList⟩, hk, by rw [← bs_of (z := s) rfl], by unfold maxLen at hs; show s.data.toList.length ≤ _; rw [Array.length_toList]; exact hs⟩
    obtain ⟨l, hb1, hb2⟩ := exists_rows n (fun i (x : Br) => u i 0 = .int .i64 x.kind ∧ u i 1 = .string (bs x.pat) ∧ x.pat.length ≤ 9223372036854775807) key
    subst hb1
    refine ⟨A, c, l, rfl, ⟨A, c, rfl, h0, h1, h2, by rw [brCells_length], fun hx => ?_⟩, h1, h2, fun x hx => ?_⟩
    · rw [brCells_length] at hx
      obtain ⟨a, ha, _⟩ := hc 0 0 (by omega) (by simp)
      refine ⟨a, ha, fun j x hj => ?_⟩
      have hjl : j < l.length * 2 := by have := (List.getElem?_eq_some_iff.1 hj).1; rwa [brCells_length] at this
      have hq : j / 2 < l.length := by omega
      obtain ⟨a', ha', hc'⟩ := hc (j / 2) (j % 2) hq (by simp; omega)
      rw [ha] at ha'; cases ha'
      have hg := br_get l (j / 2) _ (List.getElem?_eq_getElem hq)
      have hb := hb2 _ _ (List.getElem?_eq_getElem hq)
      simp only [List.length_cons, List.length_nil, Nat.zero_add] at hc'
      rw [show j / 2 * (1 + 1) + j % 2 = j by omega] at hc'
      rw [hc']
      rcases Nat.mod_two_eq_zero_or_one j with h | h
      · have e : j / 2 * 2 = j := by omega
        rw [e, hj] at hg
        rw [h, hb.1]; exact hg.1.symm
      · have e : j / 2 * 2 + 1 = j := by omega
        rw [e, hj] at hg
        rw [h, hb.2.1]; exact hg.2.symm
    · obtain ⟨j, hj, rfl⟩ := List.getElem_of_mem hx
      exact (hb2 j _ (List.getElem?_eq_getElem hj)).2.2
end Mt
end Go.Proofs.Ytojgdmpnbgikeaa
