/- Contracts of Script, the program's and the reference's, for every number and all events. Conditions: as they state. -/
import Derived.Test.YtncoedoiakaedaaDoorScript
import Derived.Test.YtncoedoiakaedaaDoorRScript
set_option linter.unusedVariables false
set_option linter.unusedSimpArgs false
namespace Go.Proofs.YtncoedoiakaedaaDoor
open Go.RowKit Tcl Tail Turn Tl Ev_ Ar Gn Ow
namespace Gs
/-- What Script tells. -/
def scriptE (evs : List EI) (m : Int) (en : Bool) : ByteArray × Int :=
  if m < 1 ∨ 1048576 < m then (⟨#[]⟩, 3) else if checkI evs ≠ 0 then (⟨#[]⟩, checkI evs) else (bstr (scriptT m.toNat (turnsI evs) en), 0)
theorem script_most (w : World) (A : Option Addr) (n c : Nat) (en : Bool) (m : Int) (hm : m < 1 ∨ 1048576 < m) :
    Calls Tryd.prog 11 #[.agg #[.slice A n c, .bool en], .int .i64 m] w fun e w' => e = .returned (.tuple #[.string ⟨#[]⟩, .int .i64 3]) ∧ Chg [] w w' := by
  obtain ⟨s, hs⟩ : ∃ s, w.heap.size = s := ⟨_, rfl⟩
  obtain ⟨w2, hw2⟩ : ∃ w2, (w.alloc (.cells #[.slice A n c, .bool en] 26 (0, 0))).alloc (.cells #[.int .i64 m] 3 (0, 0)) = w2 := ⟨_, rfl⟩
  have hC2 : Chg [] w w2 := by rw [← hw2]; exact ((Chg.refl [] w).alloc _).alloc _
  have hb3 : w2.heap[s + 1]? = some (.cells #[.int .i64 m] 3 (0, 0)) := by
    rw [← hw2, ← hs]
    have := blk_new (w.alloc (.cells #[.slice A n c, .bool en] 26 (0, 0))) (.cells #[.int .i64 m] 3 (0, 0))
    rw [size_alloc] at this
    exact this
  have a1 : w2.cell? ⟨s + 1, 0, none⟩ = some (.int .i64 m) := by simp [World.cell?, hb3]
  clear hb3
  replace hC2 := Lib.hid hC2
  go_enter Tryd.func11, Tryd.ntmps11
  by_cases h1 : m < 1
  · go_wp2_with fail
    (go_ret2; exact ⟨by simp, hC2.out⟩)
  · have h2 : 1048576 < m := by omega
    go_wp2_with fail
    (go_ret2; exact ⟨by simp, hC2.out⟩)
theorem script_chk (w : World) (evs : List EI) (A : Option Addr) (n c : Nat) (cells : List Value) (en : Bool) (m : Int) (hn : evs.length = n) (hm1 : ¬ m < 1) (hm2 : ¬ 1048576 < m) (hck : checkI evs ≠ 0) (hS : Sl w 3 (.slice A n c) n cells) (hE : EvC w cells evs) :
    Calls Tryd.prog 11 #[.agg #[.slice A n c, .bool en], .int .i64 m] w fun e w' => e = .returned (.tuple #[.string ⟨#[]⟩, .int .i64 (checkI evs)]) ∧ Chg [] w w' := by
  obtain ⟨s, hs⟩ : ∃ s, w.heap.size = s := ⟨_, rfl⟩
  obtain ⟨w2, hw2⟩ : ∃ w2, (w.alloc (.cells #[.slice A n c, .bool en] 26 (0, 0))).alloc (.cells #[.int .i64 m] 3 (0, 0)) = w2 := ⟨_, rfl⟩
  have hC2 : Chg [] w w2 := by rw [← hw2]; exact ((Chg.refl [] w).alloc _).alloc _
  have hb2 : w2.heap[s]? = some (.cells #[.slice A n c, .bool en] 26 (0, 0)) := by rw [← hw2, ← hs]; exact blk_alloc (blk_new _ _) _
  have hb3 : w2.heap[s + 1]? = some (.cells #[.int .i64 m] 3 (0, 0)) := by
    rw [← hw2, ← hs]
    have := blk_new (w.alloc (.cells #[.slice A n c, .bool en] 26 (0, 0))) (.cells #[.int .i64 m] 3 (0, 0))
    rw [size_alloc] at this
    exact this
  have hch := Lib.hid (check_any w2 evs A n c cells hn (hS.chg hC2 (by simp)) (hE.chg0 hC2))
  have a0 : w2.cell? ⟨s, 0, none⟩ = some (.slice A n c) := by simp [World.cell?, hb2]
  have a1 : w2.cell? ⟨s + 1, 0, none⟩ = some (.int .i64 m) := by simp [World.cell?, hb3]
  clear hb2 hb3 hS hE
  obtain ⟨k, hk⟩ : ∃ k, checkI evs = k := ⟨_, rfl⟩
  rw [hk] at hch hck ⊢
  replace hn := Lib.hid hn
  replace hk := Lib.hid hk
  replace hC2 := Lib.hid hC2
  go_enter Tryd.func11, Tryd.ntmps11
  go_wp2_with fail
  refine hch.out.mono ?_
  rintro e w3 ⟨rfl, hC3⟩
  have hC4 := Lib.hid (hC2.out.trans hC3)
  clear hch hC3
  go_wp2_with fail
  (go_ret2; exact ⟨by simp, hC4.out⟩)
theorem rscript_most (w : World) (A : Option Addr) (n c : Nat) (en : Bool) (m : Int) (hm : m < 1 ∨ 1048576 < m) :
    Calls Tryd.prog 12 #[.agg #[.slice A n c, .bool en], .int .i64 m] w fun e w' => e = .returned (.tuple #[.string ⟨#[]⟩, .int .i64 3]) ∧ Chg [] w w' := by
  have hC2 := Lib.hid ((Chg.refl [] w).alloc (.cells #[.slice A n c, .bool en] 26 (0, 0)))
  go_enter Tryd.func12, Tryd.ntmps12
  by_cases h1 : m < 1
  · go_wp2_with fail
    (go_ret2; exact ⟨by simp, hC2.out⟩)
  · have h2 : 1048576 < m := by omega
    go_wp2_with fail
    (go_ret2; exact ⟨by simp, hC2.out⟩)
theorem rscript_chk (w : World) (evs : List EI) (A : Option Addr) (n c : Nat) (cells : List Value) (en : Bool) (m : Int) (hn : evs.length = n) (hm1 : ¬ m < 1) (hm2 : ¬ 1048576 < m) (hck : checkI evs ≠ 0) (hS : Sl w 3 (.slice A n c) n cells) (hE : EvC w cells evs) :
    Calls Tryd.prog 12 #[.agg #[.slice A n c, .bool en], .int .i64 m] w fun e w' => e = .returned (.tuple #[.string ⟨#[]⟩, .int .i64 (checkI evs)]) ∧ Chg [] w w' := by
  obtain ⟨s, hs⟩ : ∃ s, w.heap.size = s := ⟨_, rfl⟩
  obtain ⟨w1, hw1⟩ : ∃ w1, w.alloc (.cells #[.slice A n c, .bool en] 26 (0, 0)) = w1 := ⟨_, rfl⟩
  have hC1 : Chg [] w w1 := by rw [← hw1]; exact (Chg.refl [] w).alloc _
  have hb1 : w1.heap[s]? = some (.cells #[.slice A n c, .bool en] 26 (0, 0)) := by rw [← hw1, ← hs]; exact blk_new _ _
  have hch := Lib.hid (rcheck_any w1 evs A n c cells hn (hS.chg hC1 (by simp)) (hE.chg0 hC1))
  have a0 : w1.cell? ⟨s, 0, none⟩ = some (.slice A n c) := by simp [World.cell?, hb1]
  clear hb1 hS hE
  obtain ⟨k, hk⟩ : ∃ k, checkI evs = k := ⟨_, rfl⟩
  rw [hk] at hch hck ⊢
  replace hn := Lib.hid hn
  replace hk := Lib.hid hk
  replace hC1 := Lib.hid hC1
  go_enter Tryd.func12, Tryd.ntmps12
  go_wp2_with fail
  refine hch.out.mono ?_
  rintro e w3 ⟨rfl, hC3⟩
  have hC4 := Lib.hid (hC1.out.trans hC3)
  clear hch hC3
  go_wp2_with fail
  (go_ret2; exact ⟨by simp, hC4.out⟩)
theorem script_any (w : World) (evs : List EI) (A : Option Addr) (n c : Nat) (cells : List Value) (en : Bool) (m : Int) (hn : evs.length = n) (hS : Sl w 3 (.slice A n c) n cells) (hE : EvC w cells evs) (htab : Pow10 w) :
    Calls Tryd.prog 11 #[.agg #[.slice A n c, .bool en], .int .i64 m] w fun e w' => e = .returned (.tuple #[.string (scriptE evs m en).1, .int .i64 (scriptE evs m en).2]) ∧ Chg [] w w' := by
  unfold scriptE
  by_cases h1 : m < 1 ∨ 1048576 < m
  · rw [if_pos h1]
    exact script_most w A n c en m h1
  · rw [if_neg h1]
    by_cases h2 : checkI evs = 0
    · rw [if_neg (by simp [h2])]
      have := script_ok w evs A n c cells en m.toNat hn (by omega) (by omega) h2 hS hE htab
      rw [Int.toNat_of_nonneg (by omega)] at this
      exact this
    · rw [if_pos h2]
      exact script_chk w evs A n c cells en m hn (by omega) (by omega) h2 hS hE
theorem rscript_any (w : World) (evs : List EI) (A : Option Addr) (n c : Nat) (cells : List Value) (en : Bool) (m : Int) (hn : evs.length = n) (hS : Sl w 3 (.slice A n c) n cells) (hE : EvC w cells evs) :
    Calls Tryd.prog 12 #[.agg #[.slice A n c, .bool en], .int .i64 m] w fun e w' => e = .returned (.tuple #[.string (scriptE evs m en).1, .int .i64 (scriptE evs m en).2]) ∧ Chg [] w w' := by
  unfold scriptE
  by_cases h1 : m < 1 ∨ 1048576 < m
  · rw [if_pos h1]
    exact rscript_most w A n c en m h1
  · rw [if_neg h1]
    by_cases h2 : checkI evs = 0
    · rw [if_neg (by simp [h2])]
      have := Rn.rscript_ok w evs A n c cells en m.toNat hn (by omega) (by omega) h2 hS hE
      rw [Int.toNat_of_nonneg (by omega)] at this
      exact this
    · rw [if_pos h2]
      exact rscript_chk w evs A n c cells en m hn (by omega) (by omega) h2 hS hE
end Gs
end Go.Proofs.YtncoedoiakaedaaDoor
