/- Contracts of package plan's forms and flags: maps that the call makes. Conditions: as they state. -/
import Derived.Test.YtakcolililbkjaaTclLow
import Derived.Test.YtakcolililbkjaaMap
set_option linter.unusedVariables false
set_option linter.unusedSimpArgs false
namespace Go.Proofs.Ytakcolililbkjaa
namespace Pl
open Go.RowKit
def formsB : List (ByteArray × Value) := [(⟨#[115, 101, 116]⟩, .agg #[.int .i64 0, .int .i64 2, .int .i64 2]), (⟨#[115, 112, 97, 119, 110]⟩, .agg #[.int .i64 1, .int .i64 1, .int .i64 1073741824]), (⟨#[115, 101, 110, 100]⟩, .agg #[.int .i64 2, .int .i64 1, .int .i64 1]), (⟨#[101, 120, 112, 101, 99, 116]⟩, .agg #[.int .i64 3, .int .i64 1, .int .i64 1073741824]), (⟨#[109, 97, 116, 99, 104, 95, 109, 97, 120]⟩, .agg #[.int .i64 4, .int .i64 1, .int .i64 1]), (⟨#[115, 108, 101, 101, 112]⟩, .agg #[.int .i64 5, .int .i64 1, .int .i64 1]), (⟨#[99, 108, 111, 115, 101]⟩, .agg #[.int .i64 6, .int .i64 0, .int .i64 0]), (⟨#[101, 120, 105, 116]⟩, .agg #[.int .i64 7, .int .i64 0, .int .i64 1]), (⟨#[101, 120, 112, 95, 99, 111, 110, 116, 105, 110, 117, 101]⟩, .agg #[.int .i64 8, .int .i64 0, .int .i64 0])]
set_option maxRecDepth 100000 in
set_option maxHeartbeats 8000000 in
theorem forms_any (w : World) : Calls Try.prog 27 #[] w fun e w' => ∃ b, e = .returned (.map (some b)) ∧ MapAt w' b formsB ∧ Chg [] w w' := by
  have hmm := @run_makeMap Try.prog
  have hM := MapAt.made w
  have hC := (Chg.refl [] w).alloc (.map #[] 0)
  generalize hw1 : w.alloc (.map #[] 0) = w1 at hM hC
  obtain ⟨w2, r1, hM, hC2⟩ := map_store (P := Try.prog) (t := 84) (kt := 9) (e := 82) Try.underlying84 Try.underlying9 hM ⟨#[115, 101, 116]⟩ (.agg #[.int .i64 0, .int .i64 2, .int .i64 2]) (by decide)
  replace hC := hC.then hC2 (by intro x hx; simp at hx; subst hx; exact .inr (Nat.le_refl _))
  clear hC2
  simp only [List.nil_append, List.cons_append] at hM
  obtain ⟨w3, r2, hM, hC2⟩ := map_store (P := Try.prog) (t := 84) (kt := 9) (e := 82) Try.underlying84 Try.underlying9 hM ⟨#[115, 112, 97, 119, 110]⟩ (.agg #[.int .i64 1, .int .i64 1, .int .i64 1073741824]) (by decide)
  replace hC := hC.then hC2 (by intro x hx; simp at hx; subst hx; exact .inr (Nat.le_refl _))
  clear hC2
  simp only [List.nil_append, List.cons_append] at hM
  obtain ⟨w4, r3, hM, hC2⟩ := map_store (P := Try.prog) (t := 84) (kt := 9) (e := 82) Try.underlying84 Try.underlying9 hM ⟨#[115, 101, 110, 100]⟩ (.agg #[.int .i64 2, .int .i64 1, .int .i64 1]) (by decide)
  replace hC := hC.then hC2 (by intro x hx; simp at hx; subst hx; exact .inr (Nat.le_refl _))
  clear hC2
  simp only [List.nil_append, List.cons_append] at hM
  obtain ⟨w5, r4, hM, hC2⟩ := map_store (P := Try.prog) (t := 84) (kt := 9) (e := 82) Try.underlying84 Try.underlying9 hM ⟨#[101, 120, 112, 101, 99, 116]⟩ (.agg #[.int .i64 3, .int .i64 1, .int .i64 1073741824]) (by decide)
  replace hC := hC.then hC2 (by intro x hx; simp at hx; subst hx; exact .inr (Nat.le_refl _))
  clear hC2
  simp only [List.nil_append, List.cons_append] at hM
  obtain ⟨w6, r5, hM, hC2⟩ := map_store (P := Try.prog) (t := 84) (kt := 9) (e := 82) Try.underlying84 Try.underlying9 hM ⟨#[109, 97, 116, 99, 104, 95, 109, 97, 120]⟩ (.agg #[.int .i64 4, .int .i64 1, .int .i64 1]) (by decide)
  replace hC := hC.then hC2 (by intro x hx; simp at hx; subst hx; exact .inr (Nat.le_refl _))
  clear hC2
  simp only [List.nil_append, List.cons_append] at hM
  obtain ⟨w7, r6, hM, hC2⟩ := map_store (P := Try.prog) (t := 84) (kt := 9) (e := 82) Try.underlying84 Try.underlying9 hM ⟨#[115, 108, 101, 101, 112]⟩ (.agg #[.int .i64 5, .int .i64 1, .int .i64 1]) (by decide)
  replace hC := hC.then hC2 (by intro x hx; simp at hx; subst hx; exact .inr (Nat.le_refl _))
  clear hC2
  simp only [List.nil_append, List.cons_append] at hM
  obtain ⟨w8, r7, hM, hC2⟩ := map_store (P := Try.prog) (t := 84) (kt := 9) (e := 82) Try.underlying84 Try.underlying9 hM ⟨#[99, 108, 111, 115, 101]⟩ (.agg #[.int .i64 6, .int .i64 0, .int .i64 0]) (by decide)
  replace hC := hC.then hC2 (by intro x hx; simp at hx; subst hx; exact .inr (Nat.le_refl _))
  clear hC2
  simp only [List.nil_append, List.cons_append] at hM
  obtain ⟨w9, r8, hM, hC2⟩ := map_store (P := Try.prog) (t := 84) (kt := 9) (e := 82) Try.underlying84 Try.underlying9 hM ⟨#[101, 120, 105, 116]⟩ (.agg #[.int .i64 7, .int .i64 0, .int .i64 1]) (by decide)
  replace hC := hC.then hC2 (by intro x hx; simp at hx; subst hx; exact .inr (Nat.le_refl _))
  clear hC2
  simp only [List.nil_append, List.cons_append] at hM
  obtain ⟨w10, r9, hM, hC2⟩ := map_store (P := Try.prog) (t := 84) (kt := 9) (e := 82) Try.underlying84 Try.underlying9 hM ⟨#[101, 120, 112, 95, 99, 111, 110, 116, 105, 110, 117, 101]⟩ (.agg #[.int .i64 8, .int .i64 0, .int .i64 0]) (by decide)
  replace hC := hC.then hC2 (by intro x hx; simp at hx; subst hx; exact .inr (Nat.le_refl _))
  clear hC2
  simp only [List.nil_append, List.cons_append] at hM
  replace hM := Lib.hid hM
  replace hC := Lib.hid hC
  go_enter Try.func27, Try.ntmps27
  go_wp2_with fail
  go_ret
  exact ⟨_, rfl, hM.out, hC.out⟩
def flagsB : List (ByteArray × Value) := [(⟨#[45, 101, 120, 97, 99, 116]⟩, .int .i64 0), (⟨#[45, 103, 108, 111, 98]⟩, .int .i64 1), (⟨#[116, 105, 109, 101, 111, 117, 116]⟩, .int .i64 2), (⟨#[101, 111, 102]⟩, .int .i64 3)]
set_option maxRecDepth 100000 in
set_option maxHeartbeats 8000000 in
theorem flags_any (w : World) : Calls Try.prog 51 #[] w fun e w' => ∃ b, e = .returned (.map (some b)) ∧ MapAt w' b flagsB ∧ Chg [] w w' := by
  have hmm := @run_makeMap Try.prog
  have hM := MapAt.made w
  have hC := (Chg.refl [] w).alloc (.map #[] 0)
  generalize hw1 : w.alloc (.map #[] 0) = w1 at hM hC
  obtain ⟨w2, r1, hM, hC2⟩ := map_store (P := Try.prog) (t := 112) (kt := 9) (e := 3) Try.underlying112 Try.underlying9 hM ⟨#[45, 101, 120, 97, 99, 116]⟩ (.int .i64 0) (by decide)
  replace hC := hC.then hC2 (by intro x hx; simp at hx; subst hx; exact .inr (Nat.le_refl _))
  clear hC2
  simp only [List.nil_append, List.cons_append] at hM
  obtain ⟨w3, r2, hM, hC2⟩ := map_store (P := Try.prog) (t := 112) (kt := 9) (e := 3) Try.underlying112 Try.underlying9 hM ⟨#[45, 103, 108, 111, 98]⟩ (.int .i64 1) (by decide)
  replace hC := hC.then hC2 (by intro x hx; simp at hx; subst hx; exact .inr (Nat.le_refl _))
  clear hC2
  simp only [List.nil_append, List.cons_append] at hM
  obtain ⟨w4, r3, hM, hC2⟩ := map_store (P := Try.prog) (t := 112) (kt := 9) (e := 3) Try.underlying112 Try.underlying9 hM ⟨#[116, 105, 109, 101, 111, 117, 116]⟩ (.int .i64 2) (by decide)
  replace hC := hC.then hC2 (by intro x hx; simp at hx; subst hx; exact .inr (Nat.le_refl _))
  clear hC2
  simp only [List.nil_append, List.cons_append] at hM
  obtain ⟨w5, r4, hM, hC2⟩ := map_store (P := Try.prog) (t := 112) (kt := 9) (e := 3) Try.underlying112 Try.underlying9 hM ⟨#[101, 111, 102]⟩ (.int .i64 3) (by decide)
  replace hC := hC.then hC2 (by intro x hx; simp at hx; subst hx; exact .inr (Nat.le_refl _))
  clear hC2
  simp only [List.nil_append, List.cons_append] at hM
  replace hM := Lib.hid hM
  replace hC := Lib.hid hC
  go_enter Try.func51, Try.ntmps51
  go_wp2_with fail
  go_ret
  exact ⟨_, rfl, hM.out, hC.out⟩
end Pl
end Go.Proofs.Ytakcolililbkjaa
