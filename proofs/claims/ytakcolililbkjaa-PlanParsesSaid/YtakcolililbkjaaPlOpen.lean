/- Contract of package plan's open. Conditions: as it states. -/
import Derived.Test.YtakcolililbkjaaPlOne
set_option linter.unusedVariables false
set_option linter.unusedSimpArgs false
namespace Go.Proofs.Ytakcolililbkjaa
namespace Pl
open Go.RowKit Tcl Plan
/-- The text of some parts. -/
def cat (ps : List Part) : List UInt8 := (ps.map (fun p => p.s)).flatten
theorem cat_take_le (ps : List Part) : ∀ k, (cat (ps.take k)).length ≤ (cat ps).length := by
  intro k
  have h : cat ps = cat (ps.take k) ++ cat (ps.drop k) := by unfold cat; rw [← List.flatten_append, ← List.map_append, List.take_append_drop]
  rw [h, List.length_append]; omega
theorem cat_succ {ps : List Part} {k : Nat} {p : Part} (h : ps[k]? = some p) : cat (ps.take (k + 1)) = cat (ps.take k) ++ p.s := by
  unfold cat
  rw [List.take_add_one, h]
  simp
set_option maxRecDepth 100000 in
set_option maxHeartbeats 8000000 in
theorem open_any (w : World) (wd : Word) (A : Option Addr) (c : Nat) (hp : PartsAt w (.slice A wd.parts.length c) wd.parts) (hl : (openT wd).length ≤ 16777216) (hn9 : wd.parts.length ≤ 9223372036854775807) :
    Calls Try.prog 28 #[wordV wd A c] w fun e w' => e = .returned (.string (bstr (openT wd))) ∧ Chg [] w w' := by
  obtain ⟨at_, kind, ps⟩ := wd
  have eo : openT ⟨at_, kind, ps⟩ = cat ps := rfl
  rw [eo] at hl ⊢
  unfold wordV
  simp only at hp hn9 ⊢
  have hC : Hid (Chg [] w (w.alloc (.cells #[.int .i64 at_, .int .i64 kind, .slice A ps.length c] 38))) := Lib.hid ((Chg.refl [] w).alloc _)
  obtain ⟨n, hn⟩ : ∃ n, ps.length = n := ⟨_, rfl⟩
  rw [hn] at hC hn9 ⊢
  have hcell : ∀ (k : Nat) (p : Part), ps[k]? = some p → ∃ b o, A = some ⟨b, o, none⟩ ∧ w.cell? ⟨b, o + k * 2, none⟩ = some (.bool p.var) ∧ w.cell? ⟨b, o + (k * 2 + 1), none⟩ = some (.string (bstr p.s)) := fun k p hk => by
    have hkl := (List.getElem?_eq_some_iff.1 hk).1
    obtain ⟨b, o, h1, h2⟩ := parts_at hp (by omega)
    exact ⟨b, o, h1, h2 k p hk⟩
  replace hcell := Lib.hid hcell
  clear hp
  have htot := Lib.hid (cat_take_le ps)
  replace hn := Lib.hid hn
  go_enter Try.func28, Try.ntmps28
  go_wp2_with fail
  go_loopg [3, 9] n (fun gk v3 v9 wr => ∃ (k : Nat) (Z : ByteArray), v3 = .string Z ∧ v9 = .int .i64 k ∧ k ≤ n ∧ gk = n - k ∧ Hid (Z = bstr (cat (ps.take k))) ∧ Hid (Chg [] w wr))
  case atStart => exact ⟨0, _, rfl, rfl, by omega, rfl, Lib.hid rfl, hC⟩
  case round =>
    obtain ⟨k, Z, rfl, rfl, hk, rfl, hZ, hC2⟩ := hrel
    clear hC
    by_cases hlt : k < n
    · obtain ⟨p, hpk⟩ : ∃ p, ps[k]? = some p := ⟨_, List.getElem?_eq_getElem (by have := hn.out; omega)⟩
      obtain ⟨b, o, rfl, q0, q1⟩ := hcell.out k p hpk
      replace q0 := hC2.out.cell q0 (by simp)
      replace q1 := hC2.out.cell q1 (by simp)
      rw [← Nat.add_assoc] at q1
      have hs := cat_succ hpk
      have ht := htot.out (k + 1)
      rw [hs, List.length_append] at ht
      obtain ⟨Y, hY⟩ : ∃ Y, bstr p.s = Y := ⟨_, rfl⟩
      rw [hY] at q1
      have hYs : Y.size = p.s.length := by rw [← hY]; rfl
      have hZs : Z.size = (cat (ps.take k)).length := by rw [hZ.out]; rfl
      have hcat : ¬ (9223372036854775807 < Z.size + Y.size) := by omega
      have hZ2 : Hid (Z ++ Y = bstr (cat (ps.take (k + 1)))) := Lib.hid (by
        rw [hs, ← hY, hZ.out]
        apply ByteArray.ext
        apply Array.ext'
        simp [bstr])
      clear hs ht hYs hZs hY hpk hZ
      obtain ⟨v, hv⟩ : ∃ v, p.var = v := ⟨_, rfl⟩
      rw [hv] at q0
      clear hv
      have hC3 := Lib.hid (hC2.out.alloc (.cells #[.bool v, .string Y] 42))
      go_wp2_with fail
      go_roundg (n - (k + 1))
      case measure => omega
      case rel => exact ⟨k + 1, _, rfl, rfl, by omega, rfl, hZ2, hC3⟩
    · obtain rfl : k = n := by omega
      have hZ2 := hZ.out
      rw [List.take_of_length_le (by have := hn.out; omega)] at hZ2
      clear hZ
      subst hZ2
      go_wp2_with fail
      go_ret
      exact ⟨rfl, hC2.out⟩
end Pl
end Go.Proofs.Ytakcolililbkjaa
