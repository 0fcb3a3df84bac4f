/- The law MatchBehind returns true for every input of bulk at most 1048576. -/
import Derived.Test.YtojgdmpnbgikeaaRows
import Derived.WalkKit
import Derived.ProofKit
import Derived.OpenShut
import Derived.ShutString
import Derived.ChangeOld
import Derived.Below
import Derived.Deep.CondSized
import Derived.Test.YtojgdmpnbgikeaaBehinds
import Derived.Test.YtojgdmpnbgikeaaLBehind
import Derived.Test.YtojgdmpnbgikeaaReads
set_option linter.unusedVariables false
set_option linter.unusedSimpArgs false
namespace Go.Proofs.Ytojgdmpnbgikeaa.matchBehind
open Go.ChangeShapes Go.WideShapes Go.ChangeAt Go.RowKit
open Go.ChangeMaps (open_string shut_string)

theorem own : ownKnob Try.prog.godebug = none := by kernel_rfl
theorem laidOut : laidOutB Try.prog = true := by kernel_rfl
theorem sh0 : shOf Try.prog 8 22 = some (.sl [(.int .u8)]) := by kernel_rfl
theorem sh1 : shOf Try.prog 8 3 = some (.int .i64) := by kernel_rfl
theorem sh2 : shOf Try.prog 8 23 = some (.sl [(.int .i64), .str]) := by kernel_rfl
theorem walk (a0 : Array Value) (v1 : Value) (d1 : Dt) (v2 : Value) (d2 : Dt) (w : World) (h0 : a0.size = 2 ∧ ∀ (i : Nat) (u : Value), a0[i]? = some u → ∃ d, Reads w (.sl [(.int .u8)]) u d) (hb0 : ∀ A n c A' n' c', a0 = #[.slice A n c, .slice A' n' c'] → n + n' ≤ 1048576) (h1 : Reads w (.int .i64) v1 d1) (h2 : Reads w (.sl [(.int .i64), .str]) v2 d2) :
    Calls Try.prog 8 #[.agg a0, v1, v2] w fun e w' => e = .returned (.bool true) ∧ Below w.heap.size w w' := Mt.matchBehind_row a0 v1 d1 v2 d2 w h0 hb0 h1 h2

set_option maxRecDepth 100000 in
theorem lifted (os : Os) (started : os.Started) (H : Type) (enc : TypeId × Value → H) (F0 : Stop.Interp) :
    ReturnsInHanded {} Try.checked os 8 .any ((Rows.OpenSpec.upto Rows.matchBehindSpec).pre6 enc Try.prog Try.f8 Rows.matchBehindUptoRow.domain false) (((Rows.OpenSpec.upto Rows.matchBehindSpec).at F0).post enc Try.prog Try.f8 false true false false) := by
  refine returnsInHanded_of_cond_sized (C := Try.checked) (s := (Rows.OpenSpec.upto Rows.matchBehindSpec)) (k := Rows.uptoSmall) rfl own started (by kernel_rfl) Try.func8
    (OpenSpec.witness (enc := enc) (C := Try.checked) (s := (Rows.OpenSpec.upto Rows.matchBehindSpec)) (k := Rows.uptoSmall) rfl false ⟨#[], #[.agg #[.slice none 0 0, .slice none 0 0], .int .i64 0, .slice none 0 0], []⟩ 8 (by kernel_rfl) (by kernel_rfl) (by kernel_rfl)
      (x := ([.agg [.nil, .nil], .lit (.int .i64 0), .nil], [], [])) (by kernel_rfl) (by kernel_rfl) (by kernel_rfl)) ?_
  intro W base args ds gs before hval0 hW hcnd hk hreach _
  have hval : ∀ (j : Nat) t v, Try.f8.params[j]? = some t → args[j]? = some v → Value.okWide Try.prog W .any base t v := hval0
  have hW' := hW
  obtain ⟨p, q, hA0, hV, rfl, hfz, hnd⟩ := hW
  have hA : DataW.TrodAll enc Try.prog W 0 (fun _ => true) true Try.f8.params.toList args.toList ds p := hA0
  rw [Try.params8] at hA hval
  obtain ⟨v0, vs0, d0, ds0, p0, q0, hargs, rfl, rfl, h0, r0⟩ := trodAll_cons hA
  obtain ⟨v1, vs1, d1, ds1, p1, q1, rfl, rfl, rfl, h1, r1⟩ := trodAll_cons r0
  obtain ⟨v2, vs2, d2, ds2, p2, q2, rfl, rfl, rfl, h2, r2⟩ := trodAll_cons r1
  obtain ⟨rfl, rfl, rfl⟩ := trodAll_nil r2
  obtain rfl : args = #[v0, v1, v2] := by cases args; simp_all
  obtain ⟨rfl, rfl⟩ := trodVars_none hV
  have k0 := h0
  have lt0 : ∀ x ∈ p0, x.block < W.heap.size := by obtain ⟨m, hm⟩ := k0; exact DataW.trod_lt m _ _ _ hm
  have hv0 := hval 0 49 v0 rfl rfl
  simp only [Value.okWide, Try.underlying49] at hv0
  obtain ⟨a0, rfl, _, _⟩ := hv0
  have rr0 : a0.size = 2 ∧ ∀ (i : Nat) (u : Value), a0[i]? = some u → ∃ d, Reads W (.sl [(.int .u8)]) u d := by
    obtain ⟨fuel, hf⟩ := h0
    exact reads_arr Try.underlying49 (by kernel_rfl) (by kernel_rfl) sh0 (by simpa [Value.cells] using hf)
  have k1 := h1
  have lt1 : ∀ x ∈ p1, x.block < W.heap.size := by obtain ⟨m, hm⟩ := k1; exact DataW.trod_lt m _ _ _ hm
  obtain ⟨a1, rfl⟩ := okWide_int Try.underlying3 (hval 1 3 v1 rfl rfl)
  obtain ⟨e1, rd1⟩ : ∃ d, Reads W (.int .i64) _ d := by
    obtain ⟨fuel, hf⟩ := h1
    exact reads_of_trod 8 3 _ fuel _ _ sh1 (by simpa [Value.cells] using hf)
  have k2 := h2
  have lt2 : ∀ x ∈ p2, x.block < W.heap.size := by obtain ⟨m, hm⟩ := k2; exact DataW.trod_lt m _ _ _ hm
  obtain ⟨a2, len2, cap2, rfl⟩ := okWide_slice Try.underlying23 (hval 2 23 v2 rfl rfl)
  obtain ⟨e2, rd2⟩ : ∃ d, Reads W (.sl [(.int .i64), .str]) _ d := by
    obtain ⟨fuel, hf⟩ := h2
    exact reads_of_trod 8 23 _ fuel _ _ sh2 (by simpa [Value.cells] using hf)
  have hb0 : ∀ A n c A' n' c', a0 = #[.slice A n c, .slice A' n' c'] → n + n' ≤ 1048576 := by
    rintro A n c A' n' c' rfl
    obtain ⟨fuel, hf⟩ := k0
    have h := Upto.two Try.underlying49 Try.underlying22 (by kernel_rfl) (by simpa [Value.cells] using hf)
    simp only [Rows.uptoSmall, decide_eq_true_eq, List.cons_append, Rows.uptoBulkAll] at hk
    exact Nat.le_trans (show n + n' ≤ Rows.uptoBulk d0 from h) (by omega)
  clear hA0 hval0
  refine (walk _ _ e1 _ e2 W rr0 hb0 rd1 rd2).mono fun e W' ⟨he, bel⟩ => ?_
  subst he
  exact ⟨_, rfl, _, _, _, [], _, [], hW', trodAll_mk1 (shut_bool Try.underlying4 _), (trodAll_cons_mk (Below.trod laidOut (by kernel_rfl) (of_decide_eq_true (by kernel_rfl)) k0 bel lt0) (trodAll_cons_mk (Below.trod laidOut (by kernel_rfl) (of_decide_eq_true (by kernel_rfl)) k1 bel lt1) (trodAll_cons_mk (Below.trod laidOut (by kernel_rfl) (of_decide_eq_true (by kernel_rfl)) k2 bel lt2) trodAll_mk0))), rfl, bel.frame _, fun h => by cases h⟩

theorem over : Rows.matchBehindUptoRow.holds Try.pinned (Rows.OpenSpec.upto Rows.matchBehindSpec) :=
  OpenClaim.holds_of_cond 8 Try.f8 rfl rfl rfl rfl rfl rfl rfl ⟨rfl, rfl, rfl, rfl, rfl⟩ rfl rfl rfl rfl rfl (by kernel_rfl) Try.func8 (by kernel_rfl)
    (of_decide_eq_true (by kernel_rfl)) (by unfold Func.isWrapper; first | (rw [if_pos (by decide +kernel)]; kernel_rfl) | (rw [if_neg (by decide +kernel)]; exact ⟨rfl, rfl⟩))
    (fun os started H enc _ F0 => lifted os started H enc F0)

/-- The statement. -/
theorem proved : Rows.MatchBehindUptoSaid := over
#print axioms proved
end Go.Proofs.Ytojgdmpnbgikeaa.matchBehind
