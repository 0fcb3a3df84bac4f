/- The law GenScripts returns true for every input. No condition. -/
import Derived.Test.YtncoedoiakaedaaDoorRows
import Derived.WalkKit
import Derived.ProofKit
import Derived.OpenShut
import Derived.ShutString
import Derived.ChangeOld
import Derived.Below
import Derived.LaidMore
import Derived.Handed
import Derived.Stop.Joined
import Derived.Stop.LaidErr
import Derived.Lib.LaidTab
import Derived.SevenTiedAt
import Derived.Test.YtncoedoiakaedaaDoorCards
import Derived.Test.YtncoedoiakaedaaDoorTie
import Derived.Test.YtncoedoiakaedaaDoorLScripts
import Derived.Test.YtncoedoiakaedaaDoorReads
set_option linter.unusedVariables false
set_option linter.unusedSimpArgs false
namespace Go.Proofs.YtncoedoiakaedaaDoor.genScripts
open Go.ChangeShapes Go.WideShapes Go.ChangeAt Go.RowKit
open Ev_
open Go.ChangeMaps (open_string shut_string)

theorem own : ownKnob Tryd.prog.godebug = none := by kernel_rfl
theorem laidOut : laidOutB Tryd.prog = true := by kernel_rfl
theorem sh0 : shOf Tryd.prog 8 22 = some (.sl [(.int .i64), (.int .i64), (.sl [(.int .u8)])]) := by kernel_rfl
theorem sh1 : shOf Tryd.prog 8 4 = some .bool := by kernel_rfl
theorem sh2 : shOf Tryd.prog 8 3 = some (.int .i64) := by kernel_rfl
theorem g10 : Tryd.prog.globalNamed "internal/strconv.uint64pow10" = some 0 := by kernel_rfl
theorem t10 : (Tryd.prog.globals[0]?).map (·.type) = some 170 := by kernel_rfl
theorem c10 : Tryd.prog.cellsOf 152 = 1 := by kernel_rfl
theorem d10 : Tryd.prog.cellsOf 170 = 20 := by kernel_rfl
theorem e10 : (Rows.laid_internal_strconv_uint64pow10 : DataW Unit) = Lib.tabData .u64 Lib.pow10Tab := by kernel_rfl
/-- The heap that the run of the variables leaves meets the condition. -/
theorem door_met (os : Os) (args : Array Value) : laidMetH Tryd.prog Rows.genScriptsRow.laid ((World.doorLaid Tryd.prog 400 os).forCall (fun _ _ => 0) ⟨#[], args, []⟩).memory :=
  laidMetH_of_parts3 (fuel := 8) (laidMet_of_run' 8 (by kernel_rfl) (by kernel_rfl)) (by kernel_rfl) (by kernel_rfl)
theorem of_laid {W : World} (h : laidMetH Tryd.prog Rows.genScriptsRow.laid W) : Pow10 W := by
  rw [MakeChecks.laidMetH_plain _ _ _ (by kernel_rfl)] at h
  exact Lib.tabIs_of_head (k := .u64) (zs := Lib.pow10Tab) (rest := []) g10 t10 Tryd.underlying170 Tryd.underlying152 c10 d10 (e10 ▸ h.tail.tail)
theorem walk (v0 : Value) (d0 : Dt) (v1 : Value) (d1 : Dt) (v2 : Value) (d2 : Dt) (w : World) (htab : Pow10 w) (h0 : Reads w (.sl [(.int .i64), (.int .i64), (.sl [(.int .u8)])]) v0 d0) (h1 : Reads w .bool v1 d1) (h2 : Reads w (.int .i64) v2 d2) :
    Calls Tryd.prog 3 #[v0, v1, v2] w fun e w' => e = .returned (.bool true) ∧ Below w.heap.size w w' := Gs.genScripts_row v0 d0 v1 d1 v2 d2 w htab h0 h1 h2

set_option maxRecDepth 100000 in
theorem lifted (os : Os) (started : os.Started) (H : Type) (enc : TypeId × Value → H) :
    ReturnsInHanded {} Tryd.checked os 3 .any (fun w args => (Rows.genScriptsSpec.pre enc Tryd.prog Tryd.f3 Rows.genScriptsRow.domain false w args ∧ laidMetH Tryd.prog Rows.genScriptsRow.laid w) ∧ sizedMet enc Tryd.prog Tryd.f3 (OpenSpec.ofChange Rows.genScriptsSpec) false w args)
      (Rows.genScriptsSpec.post enc Tryd.prog Tryd.f3 false true false false) := by
  refine returnsInHanded_of_change_and (C := Tryd.checked) (X := (fun w _ => laidMetH Tryd.prog Rows.genScriptsRow.laid w)) (fun _ _ _ hh h => h.of_heap hh) own started (by kernel_rfl) Tryd.func3
    (ChangeSpec.witness_shaped (enc := enc) (C := Tryd.checked) (os := os) (X := (fun w _ => laidMetH Tryd.prog Rows.genScriptsRow.laid w)) false (World.doorLaid Tryd.prog 400 os) #[.slice none 0 0, .bool false, .int .i64 0] 8 rfl (World.shaped_of_RefB (by kernel_rfl) (by kernel_rfl)) (by kernel_rfl) (by kernel_rfl) (by kernel_rfl) (door_met os _)) ?_
  intro W base args ds gs before hval0 hW hcnd _ hL _
  have hval : ∀ (j : Nat) t v, Tryd.f3.params[j]? = some t → args[j]? = some v → Value.okWide Tryd.prog W .any base t v := hval0
  have hW' := hW
  obtain ⟨p, q, hA0, hV, rfl, hfz, hnd⟩ := hW
  have hA : DataW.TrodAll enc Tryd.prog W 0 (fun _ => true) true Tryd.f3.params.toList args.toList ds p := hA0
  rw [Tryd.params3] at hA hval
  obtain ⟨v0, vs0, d0, ds0, p0, q0, hargs, rfl, rfl, h0, r0⟩ := trodAll_cons hA
  obtain ⟨v1, vs1, d1, ds1, p1, q1, rfl, rfl, rfl, h1, r1⟩ := trodAll_cons r0
  obtain ⟨v2, vs2, d2, ds2, p2, q2, rfl, rfl, rfl, h2, r2⟩ := trodAll_cons r1
  obtain ⟨rfl, rfl, rfl⟩ := trodAll_nil r2
  obtain rfl : args = #[v0, v1, v2] := by cases args; simp_all
  obtain ⟨rfl, rfl⟩ := trodVars_none hV
  have k0 := h0
  have lt0 : ∀ x ∈ p0, x.block < W.heap.size := by obtain ⟨m, hm⟩ := k0; exact DataW.trod_lt m _ _ _ hm
  obtain ⟨a0, len0, cap0, rfl⟩ := okWide_slice Tryd.underlying22 (hval 0 22 v0 rfl rfl)
  obtain ⟨e0, rd0⟩ : ∃ d, Reads W (.sl [(.int .i64), (.int .i64), (.sl [(.int .u8)])]) _ d := by
    obtain ⟨fuel, hf⟩ := h0
    exact reads_of_trod 8 22 _ fuel _ _ sh0 (by simpa [Value.cells] using hf)
  have k1 := h1
  have lt1 : ∀ x ∈ p1, x.block < W.heap.size := by obtain ⟨m, hm⟩ := k1; exact DataW.trod_lt m _ _ _ hm
  obtain ⟨a1, rfl⟩ := okWide_bool Tryd.underlying4 (hval 1 4 v1 rfl rfl)
  obtain ⟨e1, rd1⟩ : ∃ d, Reads W .bool _ d := by
    obtain ⟨fuel, hf⟩ := h1
    exact reads_of_trod 8 4 _ fuel _ _ sh1 (by simpa [Value.cells] using hf)
  have k2 := h2
  have lt2 : ∀ x ∈ p2, x.block < W.heap.size := by obtain ⟨m, hm⟩ := k2; exact DataW.trod_lt m _ _ _ hm
  obtain ⟨a2, rfl⟩ := okWide_int Tryd.underlying3 (hval 2 3 v2 rfl rfl)
  obtain ⟨e2, rd2⟩ : ∃ d, Reads W (.int .i64) _ d := by
    obtain ⟨fuel, hf⟩ := h2
    exact reads_of_trod 8 3 _ fuel _ _ sh2 (by simpa [Value.cells] using hf)
  clear hA0 hval0
  refine (walk _ e0 _ e1 _ e2 W (of_laid hL) rd0 rd1 rd2).mono fun e W' ⟨he, bel⟩ => ?_
  subst he
  exact ⟨_, rfl, _, _, _, [], _, [], hW', trodAll_mk1 (shut_bool Tryd.underlying4 _), (trodAll_cons_mk (Below.trod laidOut (by kernel_rfl) (of_decide_eq_true (by kernel_rfl)) k0 bel lt0) (trodAll_cons_mk (Below.trod laidOut (by kernel_rfl) (of_decide_eq_true (by kernel_rfl)) k1 bel lt1) (trodAll_cons_mk (Below.trod laidOut (by kernel_rfl) (of_decide_eq_true (by kernel_rfl)) k2 bel lt2) trodAll_mk0))), rfl, bel.frame _, fun h => by cases h⟩

theorem over : Rows.genScriptsRow.holds Tryd.pinned (OpenSpec.ofChange Rows.genScriptsSpec) :=
  OpenClaim.holds_of_wide 3 Tryd.f3 rfl rfl rfl rfl rfl rfl rfl ⟨rfl, rfl, rfl, rfl, rfl⟩ rfl rfl rfl rfl rfl (by kernel_rfl) Tryd.func3 (by kernel_rfl)
    (of_decide_eq_true (by kernel_rfl)) (by unfold Func.isWrapper; first | (rw [if_pos (by decide +kernel)]; kernel_rfl) | (rw [if_neg (by decide +kernel)]; exact ⟨rfl, rfl⟩))
    (fun os started H enc _ => lifted os started H enc)

/-- The statement: the tied card. -/
theorem proved : Rows.GenScriptsCardSaid :=
  Claim7.holds_tied_plain_at .later [] [.data, .data, .data] true (true, "aa2d360bb8c219668fa60a5f942e382df483779e2c1515b2947038235e529a4d") false
    over (fun _ h => by cases h) (by kernel_rfl) (fun _ h => by cases h) genScripts_row_tie rfl ⟨rfl, rfl⟩ (by kernel_rfl) rfl
    (fun f fn hf hfn => by
      obtain rfl : f = 3 := Option.some.inj ((show Tryd.prog.funcNamed "cuecard/cuecardlaw19.GenScripts" = some 3 by kernel_rfl).symm.trans hf) |>.symm
      obtain rfl : fn = Tryd.f3 := (Option.some.inj (Tryd.func3.symm.trans hfn)).symm
      exact ⟨by kernel_rfl, fun j t ht => by
        rw [Tryd.params3] at ht
        have hm : t ∈ [22, 4, 3] := by simpa using Array.mem_of_getElem? ht
        have hall : ([22, 4, 3].all fun u => !Tryd.prog.wantsStandIn u) = true := by kernel_rfl
        exact (show Tryd.prog.wantsStandIn t = false by simpa using List.all_eq_true.1 hall t hm)⟩)
    (by kernel_rfl)
#print axioms proved
end Go.Proofs.YtncoedoiakaedaaDoor.genScripts
