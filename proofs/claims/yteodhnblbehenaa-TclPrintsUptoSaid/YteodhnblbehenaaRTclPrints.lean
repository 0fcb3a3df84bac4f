/- The law TclPrints returns true for every input of bulk at most 1048576. -/
import Derived.Test.YteodhnblbehenaaRows
import Derived.WalkKit
import Derived.ProofKit
import Derived.OpenShut
import Derived.ShutString
import Derived.ChangeOld
import Derived.Below
import Derived.Deep.CondSized
import Derived.Test.YteodhnblbehenaaPrintA
import Derived.Test.YteodhnblbehenaaReads
set_option linter.unusedVariables false
set_option linter.unusedSimpArgs false
namespace Go.Proofs.Yteodhnblbehenaa.tclPrints
open Go.ChangeShapes Go.WideShapes Go.ChangeAt Go.RowKit
open Go.ChangeMaps (open_string shut_string)

theorem own : ownKnob Try.prog.godebug = none := by kernel_rfl
theorem laidOut : laidOutB Try.prog = true := by kernel_rfl
theorem sh0 : shOf Try.prog 8 22 = some (.sl [(.int .i64), (.sl [(.int .i64), (.int .i64), (.sl [.bool, .str])])]) := by kernel_rfl
theorem sh1 : shOf Try.prog 8 22 = some (.sl [(.int .i64), (.sl [(.int .i64), (.int .i64), (.sl [.bool, .str])])]) := by kernel_rfl
theorem walk (v0 : Value) (d0 : Dt) (v1 : Value) (d1 : Dt) (w : World) (h0 : Reads w (.sl [(.int .i64), (.sl [(.int .i64), (.int .i64), (.sl [.bool, .str])])]) v0 d0) (hb0 : bulkD d0 ≤ 1048576) (h1 : Reads w (.sl [(.int .i64), (.sl [(.int .i64), (.int .i64), (.sl [.bool, .str])])]) v1 d1) (hb1 : bulkD d1 ≤ 1048576) :
    Calls Try.prog 9 #[v0, v1] w fun e w' => e = .returned (.bool true) ∧ Below w.heap.size w w' := tclPrints_row v0 d0 v1 d1 w h0 hb0 h1 hb1

set_option maxRecDepth 100000 in
theorem lifted (os : Os) (started : os.Started) (H : Type) (enc : TypeId × Value → H) (F0 : Stop.Interp) :
    ReturnsInHanded {} Try.checked os 9 .any ((Rows.OpenSpec.upto Rows.tclPrintsSpec).pre6 enc Try.prog Try.f9 Rows.tclPrintsUptoRow.domain false) (((Rows.OpenSpec.upto Rows.tclPrintsSpec).at F0).post enc Try.prog Try.f9 false true false false) := by
  refine returnsInHanded_of_cond_sized (C := Try.checked) (s := (Rows.OpenSpec.upto Rows.tclPrintsSpec)) (k := Rows.uptoSmall) rfl own started (by kernel_rfl) Try.func9
    (OpenSpec.witness (enc := enc) (C := Try.checked) (s := (Rows.OpenSpec.upto Rows.tclPrintsSpec)) (k := Rows.uptoSmall) rfl false ⟨#[], #[.slice none 0 0, .slice none 0 0], []⟩ 8 (by kernel_rfl) (by kernel_rfl) (by kernel_rfl)
      (x := ([.nil, .nil], [], [])) (by kernel_rfl) (by kernel_rfl) (by kernel_rfl)) ?_
  intro W base args ds gs before hval0 hW hcnd hk hreach _
  have hval : ∀ (j : Nat) t v, Try.f9.params[j]? = some t → args[j]? = some v → Value.okWide Try.prog W .any base t v := hval0
  have hW' := hW
  obtain ⟨p, q, hA0, hV, rfl, hfz, hnd⟩ := hW
  have hA : DataW.TrodAll enc Try.prog W 0 (fun _ => true) true Try.f9.params.toList args.toList ds p := hA0
  rw [Try.params9] at hA hval
  obtain ⟨v0, vs0, d0, ds0, p0, q0, hargs, rfl, rfl, h0, r0⟩ := trodAll_cons hA
  obtain ⟨v1, vs1, d1, ds1, p1, q1, rfl, rfl, rfl, h1, r1⟩ := trodAll_cons r0
  obtain ⟨rfl, rfl, rfl⟩ := trodAll_nil r1
  obtain rfl : args = #[v0, v1] := by cases args; simp_all
  obtain ⟨rfl, rfl⟩ := trodVars_none hV
  have k0 := h0
  have lt0 : ∀ x ∈ p0, x.block < W.heap.size := by obtain ⟨m, hm⟩ := k0; exact DataW.trod_lt m _ _ _ hm
  obtain ⟨a0, len0, cap0, rfl⟩ := okWide_slice Try.underlying22 (hval 0 22 v0 rfl rfl)
  obtain ⟨e0, rd0, hbe0⟩ : ∃ d, Reads W (.sl [(.int .i64), (.sl [(.int .i64), (.int .i64), (.sl [.bool, .str])])]) _ d ∧ bulkD d ≤ Rows.uptoBulk d0 := by
    obtain ⟨fuel, hf⟩ := h0
    exact readsB_of_trod 8 22 _ fuel _ _ sh0 (by simpa [Value.cells] using hf)
  have k1 := h1
  have lt1 : ∀ x ∈ p1, x.block < W.heap.size := by obtain ⟨m, hm⟩ := k1; exact DataW.trod_lt m _ _ _ hm
  obtain ⟨a1, len1, cap1, rfl⟩ := okWide_slice Try.underlying22 (hval 1 22 v1 rfl rfl)
  obtain ⟨e1, rd1, hbe1⟩ : ∃ d, Reads W (.sl [(.int .i64), (.sl [(.int .i64), (.int .i64), (.sl [.bool, .str])])]) _ d ∧ bulkD d ≤ Rows.uptoBulk d1 := by
    obtain ⟨fuel, hf⟩ := h1
    exact readsB_of_trod 8 22 _ fuel _ _ sh1 (by simpa [Value.cells] using hf)
  have hb0 : bulkD e0 ≤ 1048576 := by
    simp only [Rows.uptoSmall, decide_eq_true_eq, List.cons_append, List.nil_append, Rows.uptoBulkAll] at hk
    omega
  have hb1 : bulkD e1 ≤ 1048576 := by
    simp only [Rows.uptoSmall, decide_eq_true_eq, List.cons_append, List.nil_append, Rows.uptoBulkAll] at hk
    omega
  clear hA0 hval0
  refine (walk _ e0 _ e1 W rd0 hb0 rd1 hb1).mono fun e W' ⟨he, bel⟩ => ?_
  subst he
  exact ⟨_, rfl, _, _, _, [], _, [], hW', trodAll_mk1 (shut_bool Try.underlying4 _), (trodAll_cons_mk (Below.trod laidOut (by kernel_rfl) (of_decide_eq_true (by kernel_rfl)) k0 bel lt0) (trodAll_cons_mk (Below.trod laidOut (by kernel_rfl) (of_decide_eq_true (by kernel_rfl)) k1 bel lt1) trodAll_mk0)), rfl, bel.frame _, fun h => by cases h⟩

theorem over : Rows.tclPrintsUptoRow.holds Try.pinned (Rows.OpenSpec.upto Rows.tclPrintsSpec) :=
  OpenClaim.holds_of_cond 9 Try.f9 rfl rfl rfl rfl rfl rfl rfl ⟨rfl, rfl, rfl, rfl, rfl⟩ rfl rfl rfl rfl rfl (by kernel_rfl) Try.func9 (by kernel_rfl)
    (of_decide_eq_true (by kernel_rfl)) (by unfold Func.isWrapper; first | (rw [if_pos (by decide +kernel)]; kernel_rfl) | (rw [if_neg (by decide +kernel)]; exact ⟨rfl, rfl⟩))
    (fun os started H enc _ F0 => lifted os started H enc F0)

/-- The statement. -/
theorem proved : Rows.TclPrintsUptoSaid := over
#print axioms proved
end Go.Proofs.Yteodhnblbehenaa.tclPrints
