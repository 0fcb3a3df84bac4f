/- The law TclParses, walked. No condition. -/
import Derived.Test.YteodhnblbehenaaTclKd
import Derived.Test.YteodhnblbehenaaTclIn
import Derived.Test.YteodhnblbehenaaRefB
import Derived.Test.YteodhnblbehenaaTclU8
import Derived.Test.YteodhnblbehenaaReads
import Derived.Deep.LoopGhost
import Derived.Deep.CutBlock
import Derived.IntWalk
import Derived.Deep.DeepCutAuto
set_option linter.unusedVariables false
set_option linter.unusedSimpArgs false
namespace Go.Proofs.Yteodhnblbehenaa
open Go.RowKit Tcl PTclParses YteodhnblbehenaaW.PrintWords
namespace Rt
set_option maxRecDepth 100000 in
set_option maxHeartbeats 16000000 in
theorem tclParses_walk (s : ByteArray) (hs : s.size ≤ maxLen) (w : World) :
    Calls Try.prog 3 #[.string s] w fun e w' => e = .returned (.bool true) ∧ Below w.heap.size w w' := by
  unfold maxLen at hs
  go_enter Try.func3, Try.ntmps3
  go_upto_region 1 with fail
  go_cut [0] (fun v0 wx => ∃ S : List UInt8, S.length ≤ 5000 ∧ v0 = .string (bstr S) ∧ Chg [] w wx)
  case first =>
    by_cases hs2 : s.size ≤ 5000
    all_goals
      go_wp2_with fail
      go_meet
      first
      | exact ⟨_, by show List.length (Array.toList _) ≤ _; rw [Array.length_toList]; show ByteArray.size _ ≤ _; first | exact hs2 | (rw [ByteArray.size_extract]; omega), congrArg _ (bstr_of rfl), Chg.refl [] w⟩
  case rest =>
  obtain ⟨S, hS, rfl, hC⟩ := hcut
  replace hC := Lib.hid hC
  have p1 := Lib.hid (fun W => parse_any W S (by omega))
  have p2 := Lib.hid (fun W => parse_ref W S (by omega))
  obtain ⟨B, hBe⟩ : ∃ B, bstr S = B := ⟨_, rfl⟩
  rw [hBe] at p1 p2 ⊢
  clear hBe
  cases hp : parse S with
  | error b =>
    obtain ⟨p, q⟩ := b
    replace hp := Lib.hid hp
    go_wp2_with fail
    refine (p1.out _).mono ?_
    rintro e w1 h1
    obtain ⟨hC1, rfl⟩ := parse_bad h1 hp.out
    replace hC := Lib.hid (hC.out.trans hC1)
    clear h1 hC1
    go_wp2_with fail
    refine (p2.out _).mono ?_
    rintro e w2 h1
    obtain ⟨hC1, rfl⟩ := parse_bad h1 hp.out
    replace hC := Lib.hid (hC.out.trans hC1)
    clear h1 hC1
    go_wp2_with fail
    refine (alive_any _).mono ?_
    rintro e w3 ⟨rfl, hC1⟩
    replace hC := Lib.hid (hC.out.trans hC1)
    clear hC1
    have K : ∀ W, k33.C W none 0 ([] : List S33) := fun W => kcmds (cs := []) (Sl.nil _ _) (CmdsAt.nil W 0 none) rfl
    replace K := Lib.hid K
    go_wp2_with fail
    ((with_reducible refine (same_any _ _ _ _ _ _ _ _ _ (by simp) (by simp) (K.out _) (K.out _) (by omega) (by omega)).mono ?_); skip)
    rintro e w4 ⟨rfl, hC1⟩
    replace hC := Lib.hid (hC.out.trans hC1)
    clear hC1
    simp only [decide_true]
    go_wp2_with fail
    ((with_reducible refine (places_any _ _ _ _ _ _ _ _ _ (by simp) (by simp) (K.out _) (K.out _) (by omega) (by omega)).mono ?_); skip)
    rintro e w5 ⟨rfl, hC1⟩
    replace hC := Lib.hid (hC.out.trans hC1)
    clear hC1
    simp only [decide_true]
    go_wp2_with fail
    go_ret
    exact ⟨rfl, hC.out.below⟩
  | ok a =>
    replace hp := Lib.hid hp
    go_wp2_with fail
    refine (p1.out _).mono ?_
    rintro e w1 h1
    obtain ⟨hC1, A1, n1, c1, xs1, rfl, hn1, hS1, hX1, -⟩ := parse_ok h1 hp.out
    have K1 := kcmds hS1 hX1 hn1
    have m1 := sl_max hS1
    subst hn1
    replace hC := Lib.hid (hC.out.trans hC1)
    replace K1 := Lib.hid K1
    clear h1 hC1 hS1 hX1
    go_wp2_with fail
    refine (p2.out _).mono ?_
    rintro e w2 h1
    obtain ⟨hC1, A2, n2, c2, xs2, rfl, hn2, hS2, hX2, -⟩ := parse_ok h1 hp.out
    have K2 := Lib.hid (kcmds hS2 hX2 hn2)
    have m2 := sl_max hS2
    subst hn2
    replace K1 := Lib.hid (Kd.C_below K1.out hC1.below)
    replace hC := Lib.hid (hC.out.trans hC1)
    clear h1 hC1 hS2 hX2
    go_wp2_with fail
    refine (alive_any _).mono ?_
    rintro e w3 ⟨rfl, hC1⟩
    replace K1 := Lib.hid (Kd.C_below K1.out hC1.below)
    replace K2 := Lib.hid (Kd.C_below K2.out hC1.below)
    replace hC := Lib.hid (hC.out.trans hC1)
    clear hC1
    go_wp2_with fail
    ((with_reducible refine (same_any _ _ _ _ _ _ _ _ _ (by simp) (by simp) K1.out K2.out (by omega) (by omega)).mono ?_); skip)
    rintro e w4 ⟨rfl, hC1⟩
    replace K1 := Lib.hid (Kd.C_below K1.out hC1.below)
    replace K2 := Lib.hid (Kd.C_below K2.out hC1.below)
    replace hC := Lib.hid (hC.out.trans hC1)
    clear hC1
    simp only [decide_true]
    go_wp2_with fail
    ((with_reducible refine (places_any _ _ _ _ _ _ _ _ _ (by simp) (by simp) K1.out K2.out (by omega) (by omega)).mono ?_); skip)
    rintro e w5 ⟨rfl, hC1⟩
    replace hC := Lib.hid (hC.out.trans hC1)
    clear hC1
    simp only [decide_true]
    go_wp2_with fail
    go_ret
    exact ⟨rfl, hC.out.below⟩
theorem tclParses_row (v0 : Value) (d0 : Dt) (w : World) (h0 : Reads w .str v0 d0) :
    Calls Try.prog 3 #[v0] w fun e w' => e = .returned (.bool true) ∧ Below w.heap.size w w' := by
  cases h0 with
  | str a0 => exact tclParses_walk _ a0 w
end Rt
end Go.Proofs.Yteodhnblbehenaa
