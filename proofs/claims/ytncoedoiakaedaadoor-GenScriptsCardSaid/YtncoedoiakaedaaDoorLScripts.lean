/- The law GenScripts, walked. Condition: the table of tens. -/
import Derived.Test.YtncoedoiakaedaaDoorGAlive
import Derived.Test.YtncoedoiakaedaaDoorGReads
import Derived.Below
set_option linter.unusedVariables false
set_option linter.unusedSimpArgs false
namespace Go.Proofs.YtncoedoiakaedaaDoor
open Go.RowKit Tcl Tail Turn Tl Ev_ Ar Gn Ow
namespace Gs
set_option maxRecDepth 100000 in
set_option maxHeartbeats 8000000 in
theorem genScripts_walk (w : World) (evs : List EI) (A : Option Addr) (n c : Nat) (cells : List Value) (en : Bool) (m : Int) (hn : evs.length = n) (hS : Sl w 3 (.slice A n c) n cells) (hE : EvC w cells evs) (htab : Pow10 w) :
    Calls Tryd.prog 3 #[.slice A n c, .bool en, .int .i64 m] w fun e w' => e = .returned (.bool true) ∧ Chg [] w w' := by
  have ha := Lib.hid (fun W (hW : Chg [] w W) => alive_any W (htab.chg hW))
  have hg := Lib.hid (fun W (hW : Chg [] w W) => great_any W evs A n c cells hn (hS.chg hW (by simp)) (hE.chg0 hW))
  have hs := Lib.hid (fun W (hW : Chg [] w W) => script_any W evs A n c cells en m hn (hS.chg hW (by simp)) (hE.chg0 hW) (htab.chg hW))
  have hr := Lib.hid (fun W (hW : Chg [] w W) => rscript_any W evs A n c cells en m hn (hS.chg hW (by simp)) (hE.chg0 hW))
  clear hS hE htab
  obtain ⟨Y, hY⟩ : ∃ Y, scriptE evs m en = Y := ⟨_, rfl⟩
  rw [hY] at hs hr
  obtain ⟨T, E⟩ := Y
  replace hY := Lib.hid hY
  replace hn := Lib.hid hn
  have hC := Lib.hid (Chg.refl [] w)
  go_enter Tryd.func3, Tryd.ntmps3
  go_wp2_with fail
  refine (ha.out w hC.out).mono ?_
  rintro e w1 ⟨rfl, hC1⟩
  replace hC := Lib.hid (hC.out.trans hC1)
  clear hC1
  go_wp2_with fail
  refine (hg.out _ hC.out).mono ?_
  rintro e w2 ⟨⟨b, rfl, -⟩, hC1⟩
  replace hC := Lib.hid (hC.out.trans hC1)
  clear hC1
  cases b with
  | true =>
    go_wp2_with fail
    refine (ha.out _ hC.out).mono ?_
    rintro e w3 ⟨rfl, hC1⟩
    replace hC := Lib.hid (hC.out.trans hC1)
    clear hC1
    go_wp2_with fail
    go_ret
    exact ⟨rfl, hC.out⟩
  | false =>
    obtain ⟨s, hs0⟩ : ∃ s, w2.heap.size = s := ⟨_, rfl⟩
    obtain ⟨w3, hw3⟩ : ∃ w3, w2.alloc (.cells #[.slice A n c, .bool en] 26 (0, 0)) = w3 := ⟨_, rfl⟩
    have hC3 : Chg [] w2 w3 := by rw [← hw3]; exact (Chg.refl [] w2).alloc _
    have hb3 : w3.heap[s]? = some (.cells #[.slice A n c, .bool en] 26 (0, 0)) := by rw [← hw3, ← hs0]; exact blk_new _ _
    have a0 : w3.cell? ⟨s, 0, none⟩ = some (.slice A n c) := by simp [World.cell?, hb3]
    have a1 : w3.cell? ⟨s, 1, none⟩ = some (.bool en) := by simp [World.cell?, hb3]
    replace hC := Lib.hid (hC.out.trans hC3)
    replace hb3 := Lib.hid hb3
    clear hC3
    go_wp2_with fail
    refine (hs.out _ hC.out).mono ?_
    rintro e w4 ⟨rfl, hC1⟩
    have hb4 := hC1.heap hb3.out (by simp)
    have b0 : w4.cell? ⟨s, 0, none⟩ = some (.slice A n c) := by simp [World.cell?, hb4]
    have b1 : w4.cell? ⟨s, 1, none⟩ = some (.bool en) := by simp [World.cell?, hb4]
    replace hC := Lib.hid (hC.out.trans hC1)
    clear hC1 hw3 a0 a1 hb3 hb4
    go_wp2_with fail
    refine (hr.out _ hC.out).mono ?_
    rintro e w5 ⟨rfl, hC1⟩
    replace hC := Lib.hid (hC.out.trans hC1)
    clear hC1
    go_wp2_with fail
    go_ret
    exact ⟨rfl, hC.out⟩
theorem genScripts_row (v0 : Value) (d0 : Dt) (v1 : Value) (d1 : Dt) (v2 : Value) (d2 : Dt) (w : World) (htab : Pow10 w) (h0 : Reads w (.sl [(.int .i64), (.int .i64), (.sl [(.int .u8)])]) v0 d0) (h1 : Reads w .bool v1 d1) (h2 : Reads w (.int .i64) v2 d2) :
    Calls Tryd.prog 3 #[v0, v1, v2] w fun e w' => e = .returned (.bool true) ∧ Below w.heap.size w w' := by
  obtain ⟨A, c, evs, cells, rfl, hS, hE, -⟩ := evs_of_reads h0
  obtain ⟨n2, rfl, -⟩ := i64_of_reads h2
  cases h1 with
  | bool => exact (genScripts_walk w evs A _ c cells _ n2 rfl hS hE htab).mono (fun e w' h => ⟨h.1, h.2.below⟩)
end Gs
end Go.Proofs.YtncoedoiakaedaaDoor
