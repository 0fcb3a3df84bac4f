/- TclBuild, TclPr1, TclPr2, TclPr3: texts of mine, joined. Conditions: as they state. -/
import Derived.Test.YteodhnblbehenaaTclFlush
import Derived.Lib.Builder
import Derived.Lib.AppendStr
import Derived.Lib.UnsafeStr
import Derived.Shelf.RegionOpenPlain
import Derived.Test.YteodhnblbehenaaTclPrK
import Derived.Test.YteodhnblbehenaaTclBr
import Derived.Deep.Cut
import Derived.Deep.CutBlock
import Derived.Deep.DeepCutAuto
import Derived.StillTailTactics
import Derived.Test.YteodhnblbehenaaTclKd
set_option linter.unusedVariables false
set_option linter.unusedSimpArgs false
namespace Go.Proofs.Yteodhnblbehenaa
open Go.RowKit Tcl
/-- Blocks that are no rows of bytes, but for `g`, stand. -/
def Kept (g : Nat) (w w' : World) : Prop := w.heap.size ≤ w'.heap.size ∧ ∀ k o, w.heap[k]? = some o → k ≠ g → (∀ cs f, o ≠ .cells cs 5 f) → w'.heap[k]? = some o
theorem Kept.refl (g : Nat) (w : World) : Kept g w w := ⟨Nat.le_refl _, fun _ _ h _ _ => h⟩
theorem Kept.trans {g : Nat} {a b c : World} (h : Kept g a b) (k : Kept g b c) : Kept g a c := ⟨Nat.le_trans h.1 k.1, fun i o h1 h2 h3 => k.2 i o (h.2 i o h1 h2 h3) h2 h3⟩
theorem Kept.of {g : Nat} {S : List Nat} {a b : World} (h : Chg S a b) (hS : ∀ k ∈ S, k = g ∨ ∃ cs f, a.heap[k]? = some (.cells cs 5 f)) : Kept g a b := by
  refine ⟨h.size, fun k o h1 h2 h3 => h.heap h1 (fun hm => ?_)⟩
  rcases hS k hm with e | ⟨cs, f, e⟩
  · exact h2 e
  · rw [e] at h1; cases h1; exact h3 _ _ rfl
/-- A builder at `g`, new since `w0`. -/
structure BdP (w0 w : World) (g : Nat) (p v : Value) (bs : List UInt8) : Prop where
  s : w0.heap.size = g
  C : Chg [] w0 w
  H : w.heap[g]? = some (.cells #[p, v] 69 (0, 0))
  O : w.ownsRow (g + 1) 5 1 v bs.length (cellsOf .u8 (nums bs))
def Bd (w0 w : World) (g : Nat) (bs : List UInt8) : Prop := ∃ p v, (p = .pointer none ∨ p = .pointer (some ⟨g, 0, none⟩)) ∧ BdP w0 w g p v bs
theorem BdP.chg {w0 w w' : World} {g : Nat} {p v : Value} {bs : List UInt8} (h : BdP w0 w g p v bs) (hc : Chg [] w w') : BdP w0 w' g p v bs :=
  ⟨h.s, h.C.trans hc, hc.heap h.H (by simp), own_chg h.O hc (by simp)⟩
theorem Bd.chg {w0 w w' : World} {g : Nat} {bs : List UInt8} (h : Bd w0 w g bs) (hc : Chg [] w w') : Bd w0 w' g bs := by
  obtain ⟨p, v, hp, h⟩ := h
  exact ⟨p, v, hp, h.chg hc⟩
theorem Bd.C {w0 w : World} {g : Nat} {bs : List UInt8} (h : Bd w0 w g bs) : Chg [] w0 w := by
  obtain ⟨p, v, hp, h⟩ := h
  exact h.C
theorem Bd.init (w : World) : Bd w (w.alloc (.cells #[.pointer none, .slice none 0 0] 69)) w.heap.size [] :=
  ⟨_, _, .inl rfl, rfl, (Chg.refl [] w).alloc _, blk_new _ _, World.ownsRow_nil _ _ _ _⟩
theorem BdP.slice {w0 w : World} {g : Nat} {p v : Value} {bs : List UInt8} (h : BdP w0 w g p v bs) : ∃ A c, v = .slice A bs.length c := by
  rcases h.O.2 with ⟨hv, h0⟩ | ⟨q, cap, cur, hv, _⟩
  · exact ⟨none, 0, by rw [hv, h0]⟩
  · exact ⟨_, _, hv⟩
set_option maxRecDepth 100000 in
set_option maxHeartbeats 4000000 in
theorem copyCheck_used (w : World) (g : Nat) (h0 : w.cell? ⟨g, 0, none⟩ = some (.pointer (some ⟨g, 0, none⟩))) :
    Calls Try.prog 44 #[.pointer (some ⟨g, 0, none⟩)] w fun e w' => e = .returned (.tuple #[]) ∧ w' = w := by
  obtain ⟨j, hj⟩ : ∃ j, Try.prog.info? 67 = some j := by
    cases h : Try.prog.info? 67 with
    | some j => exact ⟨j, rfl⟩
    | none => have : (Try.prog.info? 67).isSome = true := by kernel_rfl
              rw [h] at this; cases this
  go_enter Try.func44, Try.ntmps44
  go_wp2_with fail
  rw [Lib.run_neq_ptr_same w _ Try.underlying65 hj]
  go_wp2_with fail
  go_end0
  exact ⟨rfl, rfl⟩
set_option maxRecDepth 100000 in
set_option maxHeartbeats 4000000 in
theorem copyCheck_fresh (w : World) (g : Nat) (v : Value) (h : w.heap[g]? = some (.cells #[.pointer none, v] 69 (0, 0))) :
    Calls Try.prog 44 #[.pointer (some ⟨g, 0, none⟩)] w fun e w' => e = .returned (.tuple #[]) ∧ w' = w.setCell ⟨g, 0, none⟩ (.pointer (some ⟨g, 0, none⟩)) := by
  have h0 : w.cell? ⟨g, 0, none⟩ = some (.pointer none) := by simp [World.cell?, h]
  have hfz : w.frozen? ⟨g, 0, none⟩ = false := by simp [World.frozen?, h]
  have hsh : w.shape? g = some (69, 2) := by simp [World.shape?, h]
  replace h := Lib.hid h
  obtain ⟨j, hj, hjs⟩ : ∃ j, Try.prog.info? 67 = some j ∧ j.size = 2 := by
    have : (Try.prog.info? 67).map (·.size) = some 2 := by kernel_rfl
    obtain ⟨j, hj, hs⟩ := Option.map_eq_some_iff.1 this
    exact ⟨j, hj, hs⟩
  go_enter Try.func44, Try.ntmps44
  go_wp2_with fail
  rw [Lib.run_to_unsafe w ⟨g, 0, none⟩ Try.underlying65 Try.underlying97 hj (by rw [hjs]; decide) hsh (Nat.zero_lt_succ 1)]
  simp only [Result.andThen]
  rw [Oper.upon_value]
  go_wp2_with fail
  rw [run_callFunc_extern Try.func58 (by kernel_rfl) (by kernel_rfl) (by kernel_rfl) (e := Extern.AbiNoEscape.same) (by kernel_rfl)]
  rw [Lib.run_noEscape]
  simp only [Result.andThen]
  rw [Oper.upon_value]
  go_wp2_with fail
  rw [Lib.run_from_unsafe w ⟨g, 0, none⟩ Try.underlying97 Try.underlying65 hj hsh (by kernel_rfl)]
  simp only [Result.andThen]
  rw [Oper.upon_value]
  go_wp2_with fail
  go_end0
  exact ⟨rfl, rfl⟩
theorem copyCheck_bd (w0 w : World) (g : Nat) (bs : List UInt8) (h : Bd w0 w g bs) :
    Calls Try.prog 44 #[.pointer (some ⟨g, 0, none⟩)] w fun e w' => e = .returned (.tuple #[]) ∧ (∃ v, BdP w0 w' g (.pointer (some ⟨g, 0, none⟩)) v bs) ∧ Kept g w w' := by
  obtain ⟨p, v, hp, h⟩ := h
  rcases hp with rfl | rfl
  · refine (copyCheck_fresh w g v h.H).mono ?_
    rintro e w' ⟨rfl, rfl⟩
    have hSt : Chg [g] w (w.setCell ⟨g, 0, none⟩ (.pointer (some ⟨g, 0, none⟩))) := (Chg.refl [g] w).setCell (.inl (by simp)) _
    refine ⟨rfl, ⟨v, h.s, h.C.then hSt (fun q hq => .inr (by have := h.s; simp at hq; omega)), by simpa using blk_set h.H 0 (.pointer (some ⟨g, 0, none⟩)), own_chg h.O hSt (fun q hq hm => by have := (h.O.lt q hq).1; simp at hm; omega)⟩, Kept.of hSt (fun k hk => .inl (by simpa using hk))⟩
  · refine (copyCheck_used w g (by have := h.H; simp [World.cell?, this])).mono ?_
    rintro e w' ⟨rfl, rfl⟩
    exact ⟨rfl, ⟨v, h⟩, Kept.refl _ _⟩
/-- A new buffer is laid into the builder. -/
theorem BdP.put {w0 w w' : World} {g : Nat} {p v v' : Value} {bs bs' : List UInt8} (h : BdP w0 w g p v bs) (hc : Chg v.ownBlock.toList w w') (hO : w'.ownsRow (g + 1) 5 1 v' bs'.length (cellsOf .u8 (nums bs'))) :
    (w'.cell? ⟨g, 1, none⟩ = some v ∧ w'.frozen? ⟨g, 1, none⟩ = false) ∧ BdP w0 (w'.setCell ⟨g, 1, none⟩ v') g p v' bs' ∧ Kept g w (w'.setCell ⟨g, 1, none⟩ v') := by
  have hb := hc.heap h.H (fun hm => by have := (h.O.lt g (by simpa using hm)).1; omega)
  have hSt : Chg [g] w' (w'.setCell ⟨g, 1, none⟩ v') := (Chg.refl [g] w').setCell (.inl (by simp)) _
  refine ⟨⟨by simp [World.cell?, hb], by simp [World.frozen?, hb]⟩, ⟨h.s, ?_, by simpa using blk_set hb 1 v', own_chg hO hSt (fun q hq hm => by have := (hO.lt q hq).1; simp at hm; omega)⟩, ?_⟩
  · exact (h.C.then hc (fun q hq => .inr (by have := (h.O.lt q (by simpa using hq)).1; have := h.s; omega))).then hSt (fun q hq => .inr (by have := h.s; simp at hq; omega))
  · refine (Kept.of hc (fun k hk => .inr ?_)).trans (Kept.of hSt (fun k hk => .inl (by simpa using hk)))
    rcases h.O.2 with ⟨hv, _⟩ | ⟨q, cap, cur, hv, _, hq, _⟩
    · rw [hv] at hk; simp [Value.ownBlock] at hk
    · rw [hv] at hk; simp [Value.ownBlock] at hk; subst hk; exact ⟨_, _, hq⟩
theorem Try.info_u8b : ∃ i, Try.prog.info? 5 = some i ∧ i.zero = some (.int .u8 0) ∧ i.size = 1 ∧ i.bytes = 1 := by
  have h : (Try.prog.info? 5).map (fun i => (i.zero, i.size, i.bytes)) = some (some (.int .u8 0), 1, 1) := by kernel_rfl
  obtain ⟨i, hi, hs⟩ := Option.map_eq_some_iff.1 h
  simp only [Prod.mk.injEq] at hs
  exact ⟨i, hi, hs.1, hs.2.1, hs.2.2⟩
set_option maxRecDepth 100000 in
set_option maxHeartbeats 4000000 in
theorem writeByte_bd (w0 w : World) (g : Nat) (bs : List UInt8) (c : UInt8) (h : Bd w0 w g bs) (hlen : bs.length ≤ 70368744177664) :
    Calls Try.prog 28 #[.pointer (some ⟨g, 0, none⟩), .int .u8 c.toNat] w fun e w' => e = .returned .nilIface ∧ Bd w0 w' g (bs ++ [c]) ∧ Kept g w w' := by
  have hcc := Lib.hid (copyCheck_bd w0 w g bs h)
  obtain ⟨i0, hi, hz0, hz1, hz2⟩ := Try.info_u8b
  go_enter Try.func28, Try.ntmps28
  go_wp2_with fail
  refine (hcc.out).mono ?_
  rintro e w1 ⟨rfl, ⟨v, hB⟩, hK⟩
  obtain ⟨A, cp, rfl⟩ := hB.slice
  have c1 : w1.cell? ⟨g, 1, none⟩ = some (.slice A bs.length cp) := by have := hB.H; simp [World.cell?, this]
  have hb1 : g + 1 ≤ w1.heap.size := by have := lt_heap hB.H; omega
  replace hB := Lib.hid hB
  replace hK := Lib.hid hK
  clear h hcc
  go_wp2_with (at_builtin; refine wpList_append_sl rfl (.tmp 11) (.tmp 13) 35 rfl (g + 1) 5 (.int .u8 0) 1 1 Try.underlying35 (by kernel_rfl) rfl (by decide) (.slice A bs.length cp) bs.length (cellsOf .u8 (nums bs)) rfl (hB.out.O.alloc _) _ 1 [.int .u8 c.toNat] rfl (sl_new w1 _ 5 1 rfl (by decide)) (by intro u hu; simp at hu; subst hu; rfl) (bs.length + 1) rfl (by omega) (by decide) (by have h2 : (w1.alloc (.cells #[.int .u8 c.toNat] 5)).heap.size = w1.heap.size + 1 := Array.size_push ..; omega) ?_)
  intro A' c' w2 hO' hCh hat
  have e1 : cellsOf .u8 (nums bs) ++ [.int .u8 c.toNat] = cellsOf .u8 (nums (bs ++ [c])) := by rw [nums_append, cellsOf_append]; rfl
  rw [e1] at hO'
  have hC2 := ((Chg.refl (Value.slice A bs.length cp).ownBlock.toList w1).alloc (.cells #[.int .u8 c.toNat] 5)).trans hCh
  obtain ⟨⟨p1, p2⟩, hB2, hK2⟩ := hB.out.put (bs' := bs ++ [c]) hC2 (by rw [List.length_append]; exact hO')
  replace hB2 := Lib.hid hB2
  replace hK2 := Lib.hid (hK.out.trans hK2)
  clear hO' hCh hat hC2 e1 c1
  go_wp2_with fail
  go_ret
  exact ⟨rfl, ⟨_, _, .inr rfl, hB2.out⟩, hK2.out⟩
set_option maxRecDepth 100000 in
set_option maxHeartbeats 4000000 in
theorem writeString_bd (w0 w : World) (g : Nat) (bs s : List UInt8) (h : Bd w0 w g bs) (hlen : bs.length + s.length ≤ 70368744177664) :
    Calls Try.prog 45 #[.pointer (some ⟨g, 0, none⟩), .string (bstr s)] w fun e w' => (∃ n : Int, e = .returned (.tuple #[.int .i64 n, .nilIface])) ∧ Bd w0 w' g (bs ++ s) ∧ Kept g w w' := by
  have hcc := Lib.hid (copyCheck_bd w0 w g bs h)
  obtain ⟨i0, hi, hz0, hz1, hz2⟩ := Try.info_u8b
  have hsz : (bstr s).size = s.length := rfl
  have hcl : Lib.strCells (bstr s) = cellsOf .u8 (nums s) := by unfold Lib.strCells cellsOf nums; rw [List.map_map]; rfl
  obtain ⟨B, hBs⟩ : ∃ B, bstr s = B := ⟨_, rfl⟩
  rw [hBs] at hsz hcl ⊢
  replace hsz := Lib.hid hsz
  replace hcl := Lib.hid hcl
  clear hBs
  go_enter Try.func45, Try.ntmps45
  go_wp2_with fail
  refine (hcc.out).mono ?_
  rintro e w1 ⟨rfl, ⟨v, hB⟩, hK⟩
  obtain ⟨A, cp, rfl⟩ := hB.slice
  have c1 : w1.cell? ⟨g, 1, none⟩ = some (.slice A bs.length cp) := by have := hB.H; simp [World.cell?, this]
  have hb1 : g + 1 ≤ w1.heap.size := by have := lt_heap hB.H; omega
  replace hB := Lib.hid hB
  replace hK := Lib.hid hK
  clear h hcc
  go_wp2_with (at_builtin; refine Lib.wpList_append_own_string _ rfl (.tmp 12) (.tmp 13) 35 9 rfl (g + 1) 5 i0 Try.underlying35 Try.underlying9 hi hz0 hz1 hz2 (.slice A bs.length cp) bs.length (cellsOf .u8 (nums bs)) rfl hB.out.O B rfl (by have := hsz.out; unfold maxLen; omega) (by have := hsz.out; omega) hb1 ?_)
  intro v' w2 hO' hgr _
  have e1 : cellsOf .u8 (nums bs) ++ Lib.strCells B = cellsOf .u8 (nums (bs ++ s)) := by rw [hcl.out, nums_append, cellsOf_append]
  rw [e1] at hO'
  obtain ⟨⟨p1, p2⟩, hB2, hK2⟩ := hB.out.put (bs' := bs ++ s) (Chg.of_grown hgr) (by rw [List.length_append, ← hsz.out]; exact hO')
  obtain ⟨A', n', c', rfl⟩ : ∃ A' n' c', v' = .slice A' n' c' := by
    obtain ⟨A', c', h⟩ := hB2.slice
    exact ⟨A', _, c', h⟩
  replace hB2 := Lib.hid hB2
  replace hK2 := Lib.hid (hK.out.trans hK2)
  clear hO' hgr e1 c1
  go_wp2_with fail
  go_ret2
  exact ⟨⟨_, rfl⟩, ⟨_, _, .inr rfl, hB2.out⟩, hK2.out⟩
set_option maxRecDepth 100000 in
set_option maxHeartbeats 4000000 in
theorem len_bd (w0 w : World) (g : Nat) (bs : List UInt8) (h : Bd w0 w g bs) :
    Calls Try.prog 30 #[.pointer (some ⟨g, 0, none⟩)] w fun e w' => e = .returned (.int .i64 bs.length) ∧ w' = w := by
  obtain ⟨p, v, hp, h⟩ := h
  obtain ⟨A, cp, rfl⟩ := h.slice
  have c1 : w.cell? ⟨g, 1, none⟩ = some (.slice A bs.length cp) := by have := h.H; simp [World.cell?, this]
  clear h hp
  go_enter Try.func30, Try.ntmps30
  go_wp2_with fail
  go_ret
  exact ⟨rfl, rfl⟩
set_option maxRecDepth 100000 in
set_option maxHeartbeats 4000000 in
theorem string_bd (w0 w : World) (g : Nat) (bs : List UInt8) (h : Bd w0 w g bs) :
    Calls Try.prog 31 #[.pointer (some ⟨g, 0, none⟩)] w fun e w' => e = .returned (.string (bstr bs)) ∧ Chg [] w0 w' := by
  have mixed : Try.prog.follows Departure.mixedOrders = true := by kernel_rfl
  obtain ⟨p, v, hp, h⟩ := h
  have hCw := h.C
  by_cases h0 : bs = []
  · subst h0
    have hUS : ∀ (W : World) (q : Option Addr), (Builtin.unsafeString_ #[91, 3] 9 #[.pointer q, .int .i64 0]).run Try.prog W = .ok (.string .empty) W := fun W q => Lib.run_unsafeString_none W _ _ _ q
    rcases h.O.2 with ⟨rfl, _⟩ | ⟨q, cap, cur, rfl, hq, hg, hc1, hc2, hc3, _⟩
    · have c1 : w.drew.cell? ⟨g, 1, none⟩ = some (.slice none 0 0) := by have := h.H; show w.cell? _ = _; simp [World.cell?, this]
      have hSD : (Builtin.unsafeSliceData_ #[35] 91 #[.slice none 0 0]).run Try.prog w.drew = .ok (.pointer none) w.drew := rfl
      have hCw2 := Lib.hid hCw.drew
      clear h hp
      go_enter Try.func31, Try.ntmps31
      go_wp2_with fail
      go_region_o
      all_goals (go_wp2; go_ret; exact ⟨rfl, hCw2.out⟩)
    · by_cases hc0 : cap = 0
      · subst hc0
        have hb := h.H
        have hbq : ∀ k, k < w.heap.size → (w.drew.alloc (.view ⟨q, 0, none⟩ 5)).heap[k]? = w.heap[k]? := fun k hk => Lib.alloc_old w.drew _ k hk
        have c1 : w.drew.cell? ⟨g, 1, none⟩ = some (.slice (some ⟨q, 0, none⟩) 0 0) := by show w.cell? _ = _; simp [World.cell?, hb]
        have c0 : w.cell? ⟨g, 1, none⟩ = some (.slice (some ⟨q, 0, none⟩) 0 0) := c1
        have c2 : (w.drew.alloc (.view ⟨q, 0, none⟩ 5)).cell? ⟨g, 1, none⟩ = some (.slice (some ⟨q, 0, none⟩) 0 0) := by
          have : (w.drew.alloc (.view ⟨q, 0, none⟩ 5)).heap[g]? = _ := (hbq g (lt_heap hb)).trans hb
          simp [World.cell?, this]
        have c3 : (w.alloc (.view ⟨q, 0, none⟩ 5)).drew.cell? ⟨g, 1, none⟩ = some (.slice (some ⟨q, 0, none⟩) 0 0) := c2
        have hSD : (Builtin.unsafeSliceData_ #[35] 91 #[.slice (some ⟨q, 0, none⟩) 0 0]).run Try.prog w.drew = .ok (.pointer (some ⟨w.heap.size, 0, none⟩)) (w.drew.alloc (.view ⟨q, 0, none⟩ 5)) := by
          exact Lib.run_unsafeSliceData_zero (P := Try.prog) w.drew #[35] 91 5 Try.underlying91 ⟨q, 0, none⟩ 0 (5, cur.size) (by show w.shape? q = _; simp [World.shape?, hg])
        have hCw2 := Lib.hid (hCw.drew.alloc (.view ⟨q, 0, none⟩ 5))
        clear h hp hb hbq hg
        go_enter Try.func31, Try.ntmps31
        go_wp2_with fail
        go_region_o
        all_goals (go_wp2; go_ret; exact ⟨rfl, hCw2.out⟩)
      · have c1 : w.drew.cell? ⟨g, 1, none⟩ = some (.slice (some ⟨q, 0, none⟩) 0 cap) := by have := h.H; show w.cell? _ = _; simp [World.cell?, this]
        have hSD : (Builtin.unsafeSliceData_ #[35] 91 #[.slice (some ⟨q, 0, none⟩) 0 cap]).run Try.prog w.drew = .ok (.pointer (some ⟨q, 0, none⟩)) w.drew := Lib.run_unsafeSliceData_row _ _ _ _ _ _ hc0
        have hCw2 := Lib.hid hCw.drew
        clear h hp hc0 hg hc1 hc2 hc3
        go_enter Try.func31, Try.ntmps31
        go_wp2_with fail
        go_region_o
        all_goals (go_wp2; go_ret; exact ⟨rfl, hCw2.out⟩)
  · have hl0 : bs.length ≠ 0 := by simpa using h0
    obtain ⟨q, cap, cur, rfl, hq, hg, hnc, hcm, hcs, htake⟩ : ∃ q cap cur, v = .slice (some ⟨q, 0, none⟩) bs.length cap ∧ g + 1 ≤ q ∧ w.heap[q]? = some (.cells cur 5 (0, 0)) ∧ bs.length ≤ cap ∧ cap ≤ maxLen ∧ cur.size = cap * 1 ∧ cur.toList.take (bs.length * 1) = cellsOf .u8 (nums bs) := by
      rcases h.O.2 with ⟨_, hz⟩ | ⟨q, cap, cur, hv, r⟩
      · exact absurd hz hl0
      · exact ⟨q, cap, cur, hv, r⟩
    have c1 : w.drew.cell? ⟨g, 1, none⟩ = some (.slice (some ⟨q, 0, none⟩) bs.length cap) := by have := h.H; show w.cell? _ = _; simp [World.cell?, this]
    have hSD : (Builtin.unsafeSliceData_ #[35] 91 #[.slice (some ⟨q, 0, none⟩) bs.length cap]).run Try.prog w.drew = .ok (.pointer (some ⟨q, 0, none⟩)) w.drew := Lib.run_unsafeSliceData_row _ _ _ _ _ _ (by omega)
    have hUS : (Builtin.unsafeString_ #[91, 3] 9 #[.pointer (some ⟨q, 0, none⟩), .int .i64 bs.length]).run Try.prog w.drew = .ok (.string (bstr bs)) (w.drew.freeze ⟨q, 0, none⟩ bs.length) := by
      refine Lib.run_unsafeString_row w.drew 91 3 9 5 Try.underlying91 (by kernel_rfl) q cur.size (by show w.shape? q = _; simp [World.shape?, hg]) bs h0 (by omega) (by unfold maxLen at hcm; omega) ?_
      intro j x hx
      exact h.O.cells (g := q) rfl j (.int .u8 x.toNat) (by simp [cellsOf, nums, hx])
    have hCw2 : Hid (Chg [] w0 (w.drew.freeze ⟨q, 0, none⟩ bs.length)) := Lib.hid (Chg.of_below (Lib.below_freeze hCw.drew.below (p := ⟨q, 0, none⟩) (by show w0.heap.size ≤ q; have := h.s; omega) _))
    clear h hp hg hnc hcm hcs htake hl0
    go_enter Try.func31, Try.ntmps31
    go_wp2_with fail
    go_region_o
    all_goals (go_wp2; go_ret; exact ⟨rfl, hCw2.out⟩)
end Go.Proofs.Yteodhnblbehenaa
namespace Go.Proofs.Yteodhnblbehenaa
open Go.RowKit Tcl
theorem plain_bytes : ∀ x : Fin 256, plainB (UInt8.ofNat x.val) = (decide (32 ≤ x.val) && decide (x.val ≤ 126) && !((⟨#[34, 35, 36, 59, 91, 92, 93, 123, 125]⟩ : ByteArray).data.toList.any (· == UInt8.ofNat x.val))) := by decide +kernel
theorem plain_b (c : UInt8) : plainB c = (decide (32 ≤ c.toNat) && decide (c.toNat ≤ 126) && !((⟨#[34, 35, 36, 59, 91, 92, 93, 123, 125]⟩ : ByteArray).data.toList.any (· == c))) := by
  have := plain_bytes ⟨c.toNat, c.toNat_lt⟩
  simp only [UInt8.ofNat_toNat] at this
  exact this
set_option maxRecDepth 100000 in
set_option maxHeartbeats 4000000 in
theorem plain_any (c : UInt8) (b : Bool) (hb : plainB c = b) (w : World) : Calls Try.prog 60 #[.int .u8 c.toNat] w fun e w' => e = .returned (.bool b) ∧ w = w' := by
  have hi := index_any ⟨#[34, 35, 36, 59, 91, 92, 93, 123, 125]⟩ (c.toNat : Int)
  have hh := index_has ((⟨#[34, 35, 36, 59, 91, 92, 93, 123, 125]⟩ : ByteArray).data.toList) c
  rw [plain_b, ← hh] at hb
  have ec : ((c.toNat : Int)).toNat.toUInt8 = c := by rw [Int.toNat_natCast]; exact UInt8.ofNat_toNat
  rw [ec] at hi
  clear hh ec
  obtain ⟨v, hv⟩ : ∃ v, Lib.indexByte ((⟨#[34, 35, 36, 59, 91, 92, 93, 123, 125]⟩ : ByteArray).data.toList) c = v := ⟨_, rfl⟩
  rw [hv] at hi hb
  clear hv
  replace hi := Lib.hid hi
  by_cases h1 : 32 ≤ c.toNat
  · have d1 : decide ((c.toNat : Int) ≥ 32) = true := by simp; omega
    by_cases h2 : c.toNat ≤ 126
    · have d2 : decide ((c.toNat : Int) ≤ 126) = true := by simp; omega
      have hb2 : b = decide (v < 0) := by
        rw [← hb, decide_eq_true h1, decide_eq_true h2]
        by_cases h : 0 ≤ v
        · have : ¬ v < 0 := by omega
          simp [h, this]
        · have : v < 0 := by omega
          simp [h, this]
      subst hb2
      clear hb
      go_enter Try.func60, Try.ntmps60
      go_wp2_with fail
      refine (hi.out _).mono ?_
      rintro e w' ⟨rfl, rfl⟩
      go_wp2_with fail
      go_ret
      exact ⟨rfl, rfl⟩
    · have d2 : decide ((c.toNat : Int) ≤ 126) = false := by simp; omega
      have hb2 : b = false := by rw [← hb, decide_eq_false h2]; simp
      subst hb2
      clear hb hi
      go_enter Try.func60, Try.ntmps60
      go_wp2_with fail
      go_ret
      exact ⟨rfl, rfl⟩
  · have d1 : decide ((c.toNat : Int) ≥ 32) = false := by simp; omega
    have hb2 : b = false := by rw [← hb, decide_eq_false h1]; simp
    subst hb2
    clear hb hi
    go_enter Try.func60, Try.ntmps60
    go_wp2_with fail
    go_ret
    exact ⟨rfl, rfl⟩
theorem oct_ints : ∀ x : Fin 256, (48 + (x.val : Int) / 64) % 256 = ((48 + UInt8.ofNat x.val / 64).toNat : Int) ∧ (48 + bits BinOp.and IntKind.u8 ((x.val : Int) / 8) 7) % 256 = ((48 + UInt8.ofNat x.val / 8 % 8).toNat : Int) ∧ (48 + bits BinOp.and IntKind.u8 (x.val : Int) 7) % 256 = ((48 + UInt8.ofNat x.val % 8).toNat : Int) := by decide +kernel
theorem oct_int (c : UInt8) : (48 + (c.toNat : Int) / 64) % 256 = ((48 + c / 64).toNat : Int) ∧ (48 + bits BinOp.and IntKind.u8 ((c.toNat : Int) / 8) 7) % 256 = ((48 + c / 8 % 8).toNat : Int) ∧ (48 + bits BinOp.and IntKind.u8 (c.toNat : Int) 7) % 256 = ((48 + c % 8).toNat : Int) := by
  have := oct_ints ⟨c.toNat, c.toNat_lt⟩
  simp only [UInt8.ofNat_toNat] at this
  exact this
set_option maxRecDepth 100000 in
set_option maxHeartbeats 4000000 in
theorem octal_any (c : UInt8) (w : World) : Calls Try.prog 61 #[.int .u8 c.toNat] w fun e w' => e = .returned (.string (bstr (octB c))) ∧ Chg [] w w' := by
  obtain ⟨e1, e2, e3⟩ := oct_int c
  have hcv : (convert 35 9 (.slice (some ⟨w.heap.size, 0, none⟩) 4 4)).run Try.prog (w.alloc (.cells #[.int .u8 92, .int .u8 ((48 + c / 64).toNat : Int), .int .u8 ((48 + c / 8 % 8).toNat : Int), .int .u8 ((48 + c % 8).toNat : Int)] 5)) = .ok (.string (bstr (octB c))) (w.alloc (.cells #[.int .u8 92, .int .u8 ((48 + c / 64).toNat : Int), .int .u8 ((48 + c / 8 % 8).toNat : Int), .int .u8 ((48 + c % 8).toNat : Int)] 5)) := by
    have := sl_string (P := Try.prog) (show Sl (w.alloc (.cells #[.int .u8 92, .int .u8 ((48 + c / 64).toNat : Int), .int .u8 ((48 + c / 8 % 8).toNat : Int), .int .u8 ((48 + c % 8).toNat : Int)] 5)) 1 (.slice (some ⟨w.heap.size, 0, none⟩) 4 4) 4 (cellsOf .u8 (nums (octB c))) from sl_new w [.int .u8 92, .int .u8 ((48 + c / 64).toNat : Int), .int .u8 ((48 + c / 8 % 8).toNat : Int), .int .u8 ((48 + c % 8).toNat : Int)] 5 4 rfl (by decide)) 35 5 9 Try.underlying35 Try.underlying5 Try.underlying9
    rwa [str_nums] at this
  rw [← e1, ← e2, ← e3] at hcv
  clear e1 e2 e3
  go_enter Try.func61, Try.ntmps61
  go_wp2_with fail
  go_ret
  exact ⟨rfl, (Chg.refl [] w).alloc _⟩
/-- strings.IndexFunc at 'no name's byte'. -/
theorem indexFunc_w (s : ByteArray) (hs : s.size ≤ 9223372036854775807) (w : World) :
    Calls Try.prog 59 #[.string s, .func (.func 47) #[] #[], .bool true] w fun e w' => e = .returned (.int .i64 (idxFrom (fun r => !nameR r) s s.size 0)) ∧ Below w.heap.size w w' := by
  have hp : ∀ (W : World) (r : Nat), r < 2147483648 → Calls Try.prog 47 #[.int .i32 r] W fun e w' => e = .returned (.bool (!nameR r)) ∧ W = w' := fun W r hr => by
    have hn := Lib.hid (fun w => names_any r hr w)
    go_enter Try.func47, Try.ntmps47
    go_wp2_with fail
    refine (hn.out _).mono ?_
    rintro e w' ⟨rfl, rfl⟩
    go_wp2
    go_ret
    exact ⟨rfl, rfl⟩
  replace hp := Lib.hid hp
  go_enter Try.func59, Try.ntmps59
  go_wp2
  go_loopg [] s.size (fun gf wx => ∃ pos : Nat, wx.heap[w.heap.size]? = some (.stringIter s pos) ∧ Below w.heap.size w wx ∧ Hid (idxFrom (fun r => !nameR r) s gf pos = idxFrom (fun r => !nameR r) s s.size 0) ∧ s.size ≤ pos + gf)
  case atStart => exact ⟨0, World.iter_heap w s 0, (Below.refl _ w).alloc (Nat.le_refl _) _, rfl, by omega⟩
  case round =>
    obtain ⟨pos, hit, hbw, hleft, hfu⟩ := hrel
    by_cases hps : pos < s.size
    · obtain ⟨g', rfl⟩ : ∃ g', gk = g' + 1 := ⟨gk - 1, by omega⟩
      have hnx : ∀ ty, (Instr.next (.pointer (some ⟨w.heap.size, 0, none⟩)) true ty).run Try.prog wr = _ := fun ty => Lib.run_next_any_at wr w.heap.size s pos ty hit hps
      have hwd := width_pos s pos
      have hrl := decode_lt s pos
      obtain ⟨R, hR⟩ : ∃ R, (Utf8.decode s pos).1 = R := ⟨_, rfl⟩
      obtain ⟨K, hK⟩ : ∃ K, (Utf8.decode s pos).2 = K := ⟨_, rfl⟩
      have hl := hleft.out
      simp only [idxFrom, hps, if_true, hR, hK] at hl
      rw [hR, hK] at hnx
      rw [hK] at hwd
      rw [hR] at hrl
      have hit2 := Lib.iterAt_heap wr w.heap.size s pos (pos + K) hit
      have hbw2 := Lib.below_iterAt hbw (k := w.heap.size) (Nat.le_refl _) s (pos + K)
      obtain ⟨W, hWd⟩ : ∃ W, wr.iterAt w.heap.size s (pos + K) = W := ⟨_, rfl⟩
      rw [hWd] at hnx hit2 hbw2
      have cS := hp.out W R hrl
      clear hp hleft
      cases hsp : nameR R <;> rw [hsp] at cS <;> simp only [hsp, Bool.not_true, Bool.not_false, if_true, Bool.false_eq_true, if_false] at hl cS
      · replace hl := Lib.hid hl
        replace cS := Lib.hid cS
        go_wp2_with fail
        refine cS.out.mono ?_
        rintro e W' ⟨rfl, rfl⟩
        go_wp2
        go_ret
        exact ⟨by rw [← hl.out]; rfl, hbw2⟩
      · replace hl := Lib.hid hl
        replace cS := Lib.hid cS
        go_wp2_with fail
        refine cS.out.mono ?_
        rintro e W' ⟨rfl, rfl⟩
        go_wp2
        go_roundg g'
        case measure => omega
        case rel => exact ⟨pos + K, hit2, hbw2, hl, by omega⟩
    · have hnx : ∀ ty, (Instr.next (.pointer (some ⟨w.heap.size, 0, none⟩)) true ty).run Try.prog wr = _ := fun ty => Lib.run_next_end_at wr w.heap.size s pos ty hit hps
      have hl := hleft.out
      rw [idxFrom_end _ s gk pos hps] at hl
      replace hl := Lib.hid hl
      clear hleft hp
      go_wp2
      go_ret
      exact ⟨by rw [← hl.out]; rfl, hbw⟩
theorem IndexFunc_w (s : ByteArray) (hs : s.size ≤ 9223372036854775807) (w : World) :
    Calls Try.prog 46 #[.string s, .func (.func 47) #[] #[]] w fun e w' => e = .returned (.int .i64 (if nameLen s.data.toList = s.size then -1 else (nameLen s.data.toList : Int))) ∧ Chg [] w w' := by
  have h := indexFunc_w s hs w
  rw [idx_name] at h
  generalize (if nameLen s.data.toList = s.size then (-1 : Int) else (nameLen s.data.toList : Int)) = z at h ⊢
  replace h := Lib.hid h
  go_enter Try.func46, Try.ntmps46
  go_wp2_with fail
  refine h.out.mono ?_
  rintro e w' ⟨rfl, hb⟩
  go_wp2
  go_ret
  exact ⟨rfl, Chg.of_below hb⟩


theorem nameLen_full (l : List UInt8) : (nameLen l = l.length) ↔ l.all nameB = true := by
  induction l with
  | nil => simp [nameLen]
  | cons c l ih =>
    rw [nameLen]
    by_cases h : nameB c = true
    · rw [if_pos h]; simp [h, ih]
    · rw [if_neg h]; simp [h]
/-- Is there another byte than a name's? -/
theorem other_any (s : ByteArray) (hs : s.size ≤ 9223372036854775807) (w : World) : Calls Try.prog 46 #[.string s, .func (.func 47) #[] #[]] w fun e w' => (∃ v : Int, e = .returned (.int .i64 v) ∧ decide (v ≥ 0) = !(s.data.toList.all nameB)) ∧ Chg [] w w' := by
  refine (IndexFunc_w s hs w).mono ?_
  rintro e w' ⟨rfl, hC⟩
  refine ⟨⟨_, rfl, ?_⟩, hC⟩
  have h := nameLen_full s.data.toList
  have hsz : s.data.toList.length = s.size := by rw [Array.length_toList]; rfl
  rw [hsz] at h
  by_cases ha : s.data.toList.all nameB = true
  · rw [if_pos (h.2 ha), ha]; rfl
  · rw [if_neg (fun e => ha (h.1 e))]
    have : s.data.toList.all nameB = false := by simpa using ha
    rw [this]; simp
set_option maxRecDepth 100000 in
set_option maxHeartbeats 4000000 in
theorem whole_any (u : List UInt8) (hu : u.length ≤ 16777000) (w : World) : Calls Try.prog 49 #[.string (bstr u)] w fun e w' => e = .returned (.bool (wholeB u)) ∧ Chg [] w w' := by
  have hB : (⟨#[123]⟩ : ByteArray) ++ bstr u ++ (⟨#[125]⟩ : ByteArray) = bstr (123 :: (u ++ [125])) := by
    apply ByteArray.ext
    apply Array.ext'
    simp [bstr]
  have hsz : (bstr u).size = u.length := rfl
  have hbr := fun W h => braced_any W w.heap.size (123 :: (u ++ [125])) 0 0 (by simp; omega) rfl h
  unfold BrEnd at hbr
  rw [← hB] at hbr
  have hsz2 : ((⟨#[123]⟩ : ByteArray) ++ bstr u ++ (⟨#[125]⟩ : ByteArray)).size = u.length + 2 := by rw [hB]; show (123 :: (u ++ [125])).length = _; simp
  have hP : PS (w.alloc (.cells #[.string ((⟨#[123]⟩ : ByteArray) ++ bstr u ++ (⟨#[125]⟩ : ByteArray)), .int .i64 0, .int .i64 0, .int .i64 0] 55)) w.heap.size ((⟨#[123]⟩ : ByteArray) ++ bstr u ++ (⟨#[125]⟩ : ByteArray)) (0 : Nat) 0 0 := blk_new _ _
  obtain ⟨B, hBu⟩ : ∃ B, bstr u = B := ⟨_, rfl⟩
  rw [hBu] at hbr hsz hsz2 hP ⊢
  have hb1 : ¬ (9223372036854775807 < (⟨#[123]⟩ : ByteArray).size + B.size) := by rw [hsz]; show ¬ (_ < 1 + _); omega
  have hb2 : ¬ (9223372036854775807 < ((⟨#[123]⟩ : ByteArray) ++ B).size + (⟨#[125]⟩ : ByteArray).size) := by
    rw [ByteArray.size_append, hsz]; show ¬ (_ < 1 + _ + 1); omega
  replace hbr := Lib.hid hbr
  replace hP := Lib.hid hP
  obtain ⟨b, hb⟩ : ∃ b, wholeB u = b := ⟨_, rfl⟩
  rw [hb]
  have hw := Lib.hid (hb.symm.trans (show wholeB u = (match braced (123 :: (u ++ [125])) 0 0 0 with | .ok j => j == u.length + 2 | .error _ => false) from rfl))
  clear hB hBu hb
  have hC0 := (Chg.refl [] w).alloc (.cells #[.string ((⟨#[123]⟩ : ByteArray) ++ B ++ (⟨#[125]⟩ : ByteArray)), .int .i64 0, .int .i64 0, .int .i64 0] 55)
  replace hC0 := Lib.hid hC0
  generalize hBB : (⟨#[123]⟩ : ByteArray) ++ B ++ (⟨#[125]⟩ : ByteArray) = BB at hsz2 hbr hP hC0
  go_enter Try.func49, Try.ntmps49
  go_upto_region 2 with fail
  clear hb1 hb2 hBB
  obtain ⟨g, hg⟩ : ∃ g, w.heap.size = g := ⟨_, rfl⟩
  rw [hg] at hbr hP
  generalize w.alloc (.cells #[.string BB, .int .i64 0, .int .i64 0, .int .i64 0] 55) = w1 at hP hC0 ⊢
  go_wp2_with fail
  refine (hbr.out _ hP.out).mono ?_
  rintro e w2 ⟨v, rfl, hC2, hcase⟩
  have hC3 := Lib.hid (hC0.out.then hC2 (fun q hq => .inr (by simp at hq; omega)))
  clear hbr hC2 hC0 hP
  rcases hcase with ⟨j, hj, hP, -, -⟩ | ⟨p, c, hj, hP, -, hc0⟩
  · rw [hj] at hw
    have hw2 := hw.out
    simp only at hw2
    obtain ⟨c0, c1, c2, c3⟩ := hP.c0
    replace hP := Lib.hid hP
    by_cases hjl : j = u.length + 2
    · have e1 : ((j : Int) == (BB.size : Int)) = true := by rw [hsz2]; simp [hjl]
      replace hw2 := Lib.hid (hw2.trans (show (j == u.length + 2) = true by simpa using hjl))
      replace hjl := Lib.hid hjl
      replace hsz2 := Lib.hid hsz2
      clear hw
      go_wp2_with fail
      go_quiet (fail)
      go_wp2_with fail
      go_ret
      exact ⟨by rw [hw2.out]; rfl, hC3.out.drewN _⟩
    · have e1 : ((j : Int) == (BB.size : Int)) = false := by rw [hsz2, beq_eq_false_iff_ne]; omega
      replace hw2 := Lib.hid (hw2.trans (show (j == u.length + 2) = false by simpa using hjl))
      replace hjl := Lib.hid hjl
      replace hsz2 := Lib.hid hsz2
      clear hw
      go_wp2_with fail
      go_quiet (fail)
      go_wp2_with fail
      go_ret
      exact ⟨by rw [hw2.out]; rfl, hC3.out.drewN _⟩
  · rw [hj] at hw
    have hw2 := hw.out
    simp only at hw2
    obtain ⟨c0, c1, c2, c3⟩ := hP.c0
    have e1 : ((c : Int) == 0) = false := by rw [beq_eq_false_iff_ne]; omega
    replace hP := Lib.hid hP
    replace hw2 := Lib.hid hw2
    clear hw
    go_wp2_with fail
    go_quiet (fail)
    go_wp2_with fail
    go_ret
    exact ⟨by rw [hw2.out]; rfl, hC3.out.drewN _⟩
end Go.Proofs.Yteodhnblbehenaa
namespace Go.Proofs.Yteodhnblbehenaa
open Go.RowKit Tcl
theorem esc_o (bare bh : Bool) (c : UInt8) : escB bare bh c = if (!plainB c || (bare && c == 32) || (bh && nameB c)) then octB c else [c] := by
  unfold escB
  cases plainB c <;> cases (bare && c == 32) <;> cases (bh && nameB c) <;> rfl
set_option maxRecDepth 100000 in
set_option maxHeartbeats 8000000 in
theorem text_any (w0 w : World) (g : Nat) (bs s : List UInt8) (bare behind : Bool) (h : Bd w0 w g bs) (hlen : bs.length + 4 * s.length ≤ 70368744177000) :
    Calls Try.prog 50 #[.pointer (some ⟨g, 0, none⟩), .string (bstr s), .bool bare, .bool behind] w fun e w' => e = .returned (.tuple #[]) ∧ Bd w0 w' g (bs ++ textB bare behind s) ∧ Kept g w w' := by
  have hsz : (bstr s).size = s.length := rfl
  obtain ⟨B, hB⟩ : ∃ B, bstr s = B := ⟨_, rfl⟩
  have hby : ∀ i (h : i < B.size), s[i]? = some (B[i]'h) := by rw [← hB]; exact fun i h => byte_of h
  rw [hB] at hsz ⊢
  replace hby := Lib.hid hby
  replace h := Lib.hid h
  clear hB
  go_enter Try.func50, Try.ntmps50
  go_wp2_with fail
  go_loopg [12] s.length (fun gk v12 wr => ∃ (i : Nat) (X : List UInt8), v12 = .int .i64 i ∧ i ≤ s.length ∧ gk = s.length - i ∧ X.length ≤ 4 * i ∧ Hid (textB bare behind s = X ++ textB bare (behind && decide (i = 0)) (s.drop i)) ∧ Hid (Bd w0 wr g (bs ++ X)) ∧ Hid (Kept g w wr))
  case atStart => exact ⟨0, [], rfl, by omega, by omega, by simp, Lib.hid (by simp), Lib.hid (by rw [List.append_nil]; exact h.out), Lib.hid (Kept.refl _ _)⟩
  case round =>
    obtain ⟨i, X, rfl, hi, rfl, hX, hT, hBd, hK⟩ := hrel
    clear h
    by_cases hlt : i < s.length
    · have hlB : i < B.size := by omega
      obtain ⟨c, hc⟩ : ∃ c, B[i]'hlB = c := ⟨_, rfl⟩
      have hsc : s[i]? = some c := by rw [hby.out i hlB, hc]
      obtain ⟨bh, hbh⟩ : ∃ bh, (behind && decide (i = 0)) = bh := ⟨_, rfl⟩
      have hstep : textB bare bh (s.drop i) = escB bare bh c ++ textB bare false (s.drop (i + 1)) := by
        obtain ⟨hl, he⟩ := List.getElem?_eq_some_iff.1 hsc
        rw [List.drop_eq_getElem_cons hl, he, textB]
      rw [hbh] at hT
      have hT2 := hT.out
      rw [hstep, esc_o] at hT2
      obtain ⟨o, ho⟩ : ∃ o, (!plainB c || (bare && c == 32) || (bh && nameB c)) = o := ⟨_, rfl⟩
      rw [ho] at hT2
      replace hT2 := Lib.hid hT2
      replace ho := Lib.hid ho
      replace hbh := Lib.hid hbh
      have hw32 : wrap32 (c.toNat : Int) = c.toNat := by have := c.toNat_lt; unfold wrap32; omega
      clear hstep hT
      go_upto_region 4 with fail
      go_cut [39] (fun v39 wx => v39 = .bool o ∧ wx = wr)
      case first =>
        clear hT2 hBd hK hX
        cases hp : plainB c with
        | false =>
          have hpl := Lib.hid (fun w => plain_any c false hp w)
          obtain rfl : o = true := by rw [← ho.out, hp]; simp
          clear ho hbh
          go_wp2_with fail
          refine (hpl.out _).mono ?_
          rintro e w' ⟨rfl, rfl⟩
          go_wp2_with fail
          go_meet
          exact ⟨rfl, rfl⟩
        | true =>
          have hpl := Lib.hid (fun w => plain_any c true hp w)
          cases bare with
          | false =>
            cases behind with
            | false =>
              obtain rfl : o = false := by rw [← ho.out, hp, ← hbh.out]; simp
              clear ho hbh
              go_wp2_with fail
              refine (hpl.out _).mono ?_
              rintro e w' ⟨rfl, rfl⟩
              go_wp2_with fail
              go_meet
              exact ⟨rfl, rfl⟩
            | true =>
              by_cases hi0 : i = 0
              · subst hi0
                cases hn : nameB c with
                | false =>
                  obtain rfl : o = false := by rw [← ho.out, hp, ← hbh.out, hn]; simp
                  have hnm := Lib.hid (fun w => names_any c.toNat (by have := c.toNat_lt; omega) w)
                  rw [nameR_byte, hn] at hnm
                  clear ho hbh
                  go_wp2_with fail
                  refine (hpl.out _).mono ?_
                  rintro e w' ⟨rfl, rfl⟩
                  go_wp2_with fail
                  refine (hnm.out _).mono ?_
                  rintro e w' ⟨rfl, rfl⟩
                  go_wp2_with fail
                  go_meet
                  exact ⟨rfl, rfl⟩
                | true =>
                  obtain rfl : o = true := by rw [← ho.out, hp, ← hbh.out, hn]; simp
                  have hnm := Lib.hid (fun w => names_any c.toNat (by have := c.toNat_lt; omega) w)
                  rw [nameR_byte, hn] at hnm
                  clear ho hbh
                  go_wp2_with fail
                  refine (hpl.out _).mono ?_
                  rintro e w' ⟨rfl, rfl⟩
                  go_wp2_with fail
                  refine (hnm.out _).mono ?_
                  rintro e w' ⟨rfl, rfl⟩
                  go_wp2_with fail
                  go_meet
                  exact ⟨rfl, rfl⟩
              · have ei : ((i : Int) == 0) = false := by rw [beq_eq_false_iff_ne]; omega
                obtain rfl : o = false := by rw [← ho.out, hp, ← hbh.out]; simp [hi0]
                clear ho hbh
                go_wp2_with fail
                refine (hpl.out _).mono ?_
                rintro e w' ⟨rfl, rfl⟩
                go_wp2_with fail
                go_meet
                exact ⟨rfl, rfl⟩
          | true =>
            by_cases h32 : c = 32
            · subst h32
              obtain rfl : o = true := by rw [← ho.out, hp]; simp
              clear ho hbh
              go_wp2_with fail
              refine (hpl.out _).mono ?_
              rintro e w' ⟨rfl, rfl⟩
              go_wp2_with fail
              go_meet
              exact ⟨rfl, rfl⟩
            · have e32 : ((c.toNat : Int) == 32) = false := u8n (n := 32) h32
              cases behind with
              | false =>
                obtain rfl : o = false := by rw [← ho.out, hp, ← hbh.out]; simp [h32]
                clear ho hbh
                go_wp2_with fail
                refine (hpl.out _).mono ?_
                rintro e w' ⟨rfl, rfl⟩
                go_wp2_with fail
                go_meet
                exact ⟨rfl, rfl⟩
              | true =>
                by_cases hi0 : i = 0
                · subst hi0
                  cases hn : nameB c with
                  | false =>
                    obtain rfl : o = false := by rw [← ho.out, hp, ← hbh.out, hn]; simp [h32]
                    have hnm := Lib.hid (fun w => names_any c.toNat (by have := c.toNat_lt; omega) w)
                    rw [nameR_byte, hn] at hnm
                    clear ho hbh
                    go_wp2_with fail
                    refine (hpl.out _).mono ?_
                    rintro e w' ⟨rfl, rfl⟩
                    go_wp2_with fail
                    refine (hnm.out _).mono ?_
                    rintro e w' ⟨rfl, rfl⟩
                    go_wp2_with fail
                    go_meet
                    exact ⟨rfl, rfl⟩
                  | true =>
                    obtain rfl : o = true := by rw [← ho.out, hp, ← hbh.out, hn]; simp
                    have hnm := Lib.hid (fun w => names_any c.toNat (by have := c.toNat_lt; omega) w)
                    rw [nameR_byte, hn] at hnm
                    clear ho hbh
                    go_wp2_with fail
                    refine (hpl.out _).mono ?_
                    rintro e w' ⟨rfl, rfl⟩
                    go_wp2_with fail
                    refine (hnm.out _).mono ?_
                    rintro e w' ⟨rfl, rfl⟩
                    go_wp2_with fail
                    go_meet
                    exact ⟨rfl, rfl⟩
                · have ei : ((i : Int) == 0) = false := by rw [beq_eq_false_iff_ne]; omega
                  obtain rfl : o = false := by rw [← ho.out, hp, ← hbh.out]; simp [hi0, h32]
                  clear ho hbh
                  go_wp2_with fail
                  refine (hpl.out _).mono ?_
                  rintro e w' ⟨rfl, rfl⟩
                  go_wp2_with fail
                  go_meet
                  exact ⟨rfl, rfl⟩
      case rest =>
        obtain ⟨rfl, rfl⟩ := hcut
        have hrel : ∀ (Y : List UInt8) (wx : World), Y = (if o then octB c else [c]) → Bd w0 wx g ((bs ++ X) ++ Y) → Kept g wc wx → X.length + Y.length ≤ 4 * (i + 1) → (∃ (i' : Nat) (X' : List UInt8), ((i : Int) + 1) = (i' : Int) ∧ i' ≤ s.length ∧ s.length - (i + 1) = s.length - i' ∧ X'.length ≤ 4 * i' ∧ Hid (textB bare behind s = X' ++ textB bare (behind && decide (i' = 0)) (s.drop i')) ∧ Hid (Bd w0 wx g (bs ++ X')) ∧ Hid (Kept g w wx)) := fun Y wx hY hB2 hK2 hl => by
          refine ⟨i + 1, X ++ Y, by omega, by omega, rfl, by simpa using hl, Lib.hid ?_, Lib.hid (by rw [← List.append_assoc]; exact hB2), Lib.hid (hK.out.trans hK2)⟩
          rw [hT2.out, hY]
          have : (behind && decide (i + 1 = 0)) = false := by simp
          rw [this, List.append_assoc]
        replace hrel := Lib.hid hrel
        have hlX : (bs ++ X).length + 4 ≤ 70368744177664 := by rw [List.length_append]; omega
        cases o with
        | true =>
          have hoc := Lib.hid (fun w => octal_any c w)
          have hws := Lib.hid (fun W (h : Bd w0 W g (bs ++ X)) => writeString_bd w0 W g (bs ++ X) (octB c) h (by show _ + 4 ≤ _; exact hlX))
          go_upto_region 5 with fail
          have hBd6 := Lib.hid (hBd.out.chg (Chg.refl [] wc).drew)
          have hK6 : Hid (Kept g wc wc.drew) := Lib.hid (Kept.of (S := []) (Chg.refl [] wc).drew (by simp))
          refine wp_region_any (by kernel_rfl) ?_
          (try (change wpAny _ _ _ _ _ _ _ (World.drew _)))
          refine wpAny_take (i := 0) (v := ?_) rfl (by kernel_rfl) (by kernel_rfl) (by kernel_rfl) (fun _ _ _ h => h) (Or.inl ⟨by kernel_rfl, ?_⟩) ?_
          rotate_left
          · (intro w; go_simp; try with_reducible rfl)
          change wpAny _ _ _ _ _ _ (Act.put _ (some 40) _) _
          (try simp only [Act.put, List.setIfInBounds_toArray, List.set_cons_zero, List.set_cons_succ])
          (generalize World.drew wc = w6 at hBd6 hK6 ⊢)
          refine wpAny_take (i := 1) (v := ?_) rfl (by kernel_rfl) (by kernel_rfl) (by kernel_rfl) (fun _ _ _ h => h) (Or.inl ⟨by kernel_rfl, ?_⟩) ?_
          rotate_left
          · (intro w; go_simp; try with_reducible rfl)
          change wpAny _ _ _ _ _ _ (Act.put _ (some 41) _) _
          (try simp only [Act.put, List.setIfInBounds_toArray, List.set_cons_zero, List.set_cons_succ])
          refine wpAny_take (i := 2) (v := ?_) rfl (by kernel_rfl) (by kernel_rfl) (by kernel_rfl) (fun _ _ _ h => h) (Or.inl ⟨by kernel_rfl, ?_⟩) ?_
          rotate_left
          · (intro w; go_simp; try with_reducible rfl)
          change wpAny _ _ _ _ _ _ (Act.put _ (some 42) _) _
          (try simp only [Act.put, List.setIfInBounds_toArray, List.set_cons_zero, List.set_cons_succ])
          refine wpAny_take (i := 3) (v := ?_) rfl (by kernel_rfl) (by kernel_rfl) (by kernel_rfl) (fun _ _ _ h => h) (Or.inl ⟨by kernel_rfl, ?_⟩) ?_
          rotate_left
          · (intro w; go_simp; try with_reducible rfl)
          change wpAny _ _ _ _ _ _ (Act.put _ (some 43) _) _
          (try simp only [Act.put, List.setIfInBounds_toArray, List.set_cons_zero, List.set_cons_succ])
          refine wpAny_ready (rs := [4]) (by kernel_rfl) (by simp) ?_
          refine AllReady.cons rfl (fun K hK => ?_) ?_
          · go_simp
            go_wp2_with (first
                | (go_at_call 61; refine (hoc.out _).mono ?_; rintro e w8 ⟨rfl, hC8⟩)
                | (go_at_call 45; refine (hws.out _ hBd6.out).mono ?_; rintro e w8 ⟨⟨n9, rfl⟩, hB9, hK9⟩))
            (try (refine hK _ _ ?_; clear hK K))
            (try simp only [Act.put, List.setIfInBounds_toArray, List.set_cons_zero, List.set_cons_succ])
            (replace hBd6 := Lib.hid (hBd6.out.chg hC8); replace hK6 := Lib.hid (hK6.out.trans (Kept.of (S := []) hC8 (by simp))); clear hC8)
            refine wpAny_ready (rs := [5]) (by kernel_rfl) (by simp) ?_
            refine AllReady.cons rfl (fun K hK => ?_) ?_
            · go_simp
              go_wp2_with (first
                  | (go_at_call 61; refine (hoc.out _).mono ?_; rintro e w8 ⟨rfl, hC8⟩)
                  | (go_at_call 45; refine (hws.out _ hBd6.out).mono ?_; rintro e w8 ⟨⟨n9, rfl⟩, hB9, hK9⟩))
              (try (refine hK _ _ ?_; clear hK K))
              (try simp only [Act.put, List.setIfInBounds_toArray, List.set_cons_zero, List.set_cons_succ])
              refine wpAny_done (by kernel_rfl) ?_ _
              (try simp only [Act.put, List.setIfInBounds_toArray, List.set_cons_zero, List.set_cons_succ])
              have hfin := Lib.hid (hrel.out (octB c) _ rfl hB9 (hK6.out.trans hK9) (by show _ + 4 ≤ _; omega))
              clear hB9 hK9 hBd6 hK6
              go_wp2_with fail
              go_roundg (s.length - (i + 1))
              case measure => omega
              case rel =>
                obtain ⟨i', X', h1, h2⟩ := hfin.out
                exact ⟨i', X', by rw [← h1], h2⟩
            exact AllReady.nil
          exact AllReady.nil
        | false =>
          have hwb := Lib.hid (writeByte_bd w0 wc g (bs ++ X) c hBd.out (by omega))
          go_wp2_with fail
          refine (hwb.out).mono ?_
          rintro e w8 ⟨rfl, hB9, hK9⟩
          have hfin := Lib.hid (hrel.out [c] _ rfl hB9 hK9 (by show _ + 1 ≤ _; omega))
          clear hB9 hK9
          go_wp2_with fail
          go_roundg (s.length - (i + 1))
          case measure => omega
          case rel =>
            obtain ⟨i', X', h1, h2⟩ := hfin.out
            exact ⟨i', X', by rw [← h1], h2⟩
    · obtain rfl : i = s.length := by omega
      have hT2 := hT.out
      rw [List.drop_length, textB, List.append_nil] at hT2
      rw [← hT2] at hBd
      clear hT hT2
      go_wp2_with fail
      go_end0
      exact ⟨rfl, hBd.out, hK.out⟩
end Go.Proofs.Yteodhnblbehenaa
namespace Go.Proofs.Yteodhnblbehenaa
open Go.RowKit Tcl PTclParses YteodhnblbehenaaW.PrintWords
def prevK (ps : List PK) (i : Nat) : Option Bool := if i = 0 then none else (ps[i - 1]?).map (·.1)
/-- How far the parts are printed. -/
def Run (kd : Int) (ps : List PK) (i : Nat) (X : List UInt8) : Prop := partsK kd none ps = (partsK kd (prevK ps i) (ps.drop i)).map (X ++ ·)
theorem run_init (kd : Int) (ps : List PK) : Run kd ps 0 [] := by
  unfold Run prevK
  cases h : partsK kd none ps <;> simp [h]
theorem run_none {kd : Int} {ps : List PK} {i : Nat} {X : List UInt8} {p : PK} (h : Run kd ps i X) (hp : ps[i]? = some p) (hn : partK kd (prevK ps i) p = none) : partsK kd none ps = none := by
  obtain ⟨hl, he⟩ := List.getElem?_eq_some_iff.1 hp
  rw [h, List.drop_eq_getElem_cons hl, he, partsK, hn]; rfl
theorem run_some {kd : Int} {ps : List PK} {i : Nat} {X x : List UInt8} {p : PK} (h : Run kd ps i X) (hp : ps[i]? = some p) (hn : partK kd (prevK ps i) p = some x) : Run kd ps (i + 1) (X ++ x) := by
  obtain ⟨hl, he⟩ := List.getElem?_eq_some_iff.1 hp
  unfold Run at h ⊢
  rw [h, List.drop_eq_getElem_cons hl, he, partsK, hn]
  have e : prevK ps (i + 1) = some p.1 := by unfold prevK; rw [if_neg (by omega), Nat.add_sub_cancel, hp]; rfl
  rw [e]
  cases partsK kd (some p.1) (ps.drop (i + 1)) <;> simp
theorem run_end {kd : Int} {ps : List PK} {X : List UInt8} (h : Run kd ps ps.length X) : partsK kd none ps = some X := by
  rw [h, List.drop_length, partsK]; simp
def openK (kd : Int) : List UInt8 := if kd = 0 then [] else if kd = 1 then [34] else [123]
def closeK (kd : Int) : List UInt8 := if kd = 0 then [] else if kd = 1 then [34] else [125]
theorem partK_var (kd : Int) (prev : Option Bool) (u : List UInt8) : partK kd prev (true, u) = if (decide (kd = 2) || u.isEmpty || decide (64 < u.length) || !u.all nameB) = true then none else some (36 :: u) := by
  unfold partK
  rw [if_pos rfl]
  have : (kd = 2 ∨ u = [] ∨ 64 < u.length ∨ u.all nameB = false) ↔ ((decide (kd = 2) || u.isEmpty || decide (64 < u.length) || !u.all nameB) = true) := by
    simp only [Bool.or_eq_true, decide_eq_true_eq, List.isEmpty_iff, Bool.not_eq_true']
    constructor
    · rintro (h | h | h | h)
      · exact .inl (.inl (.inl h))
      · exact .inl (.inl (.inr h))
      · exact .inl (.inr h)
      · exact .inr h
    · rintro (((h | h) | h) | h)
      · exact .inl h
      · exact .inr (.inl h)
      · exact .inr (.inr (.inl h))
      · exact .inr (.inr (.inr h))
  by_cases h : kd = 2 ∨ u = [] ∨ 64 < u.length ∨ u.all nameB = false
  · rw [if_pos h, if_pos (this.1 h)]
  · rw [if_neg h, if_neg (fun x => h (this.2 x))]
theorem partK_text (kd : Int) (prev : Option Bool) (u : List UInt8) : partK kd prev (false, u) = if (u.isEmpty || (prev == some false) || (decide (kd = 2) && !wholeB u)) = true then none else some (if kd = 2 then u else textB (decide (kd = 0)) prev.isSome u) := by
  unfold partK
  rw [if_neg (by simp)]
  have : (u = [] ∨ prev = some false ∨ (kd = 2 ∧ wholeB u = false)) ↔ ((u.isEmpty || (prev == some false) || (decide (kd = 2) && !wholeB u)) = true) := by
    simp only [Bool.or_eq_true, Bool.and_eq_true, decide_eq_true_eq, List.isEmpty_iff, Bool.not_eq_true', beq_iff_eq]
    constructor
    · rintro (h | h | h)
      · exact .inl (.inl h)
      · exact .inl (.inr h)
      · exact .inr h
    · rintro ((h | h) | h)
      · exact .inl h
      · exact .inr (.inl h)
      · exact .inr (.inr h)
  by_cases h : u = [] ∨ prev = some false ∨ (kd = 2 ∧ wholeB u = false)
  · rw [if_pos h, if_pos (this.1 h)]
  · rw [if_neg h, if_neg (fun x => h (this.2 x))]
    by_cases k : kd = 2
    · rw [if_pos k, if_pos k]
    · rw [if_neg k, if_neg k]
theorem textB_len (bare : Bool) : ∀ (u : List UInt8) (b : Bool), (textB bare b u).length ≤ 4 * u.length := by
  intro u
  induction u with
  | nil => intro b; exact Nat.le_refl _
  | cons c u ih =>
    intro b
    rw [textB, List.length_append]
    have h1 := ih false
    have h2 : (escB bare b c).length ≤ 4 := by unfold escB; split <;> simp [octB]
    simp only [List.length_cons]; omega
theorem open_len (kd : Int) : (openK kd).length ≤ 1 := by
  unfold openK
  split
  · simp
  · split <;> simp
theorem close_len (kd : Int) : (closeK kd).length ≤ 1 := by
  unfold closeK
  split
  · simp
  · split <;> simp
theorem wordK_ok {kd : Int} {ps : List PK} (h : ¬ (kd < 0 ∨ 2 < kd ∨ (kd = 0 ∧ ps = []) ∨ (kd = 2 ∧ 1 < ps.length))) : wordK (kd, ps) = (partsK kd none ps).map (fun x => openK kd ++ x ++ closeK kd) := by
  unfold wordK
  rw [if_neg h]
  have h1 : ¬ kd < 0 := fun x => h (.inl x)
  have h2 : ¬ 2 < kd := fun x => h (.inr (.inl x))
  cases partsK kd none ps with
  | none => rfl
  | some x =>
    simp only [Option.map_some]
    unfold openK closeK
    by_cases k0 : kd = 0
    · simp [k0]
    · by_cases k1 : kd = 1
      · simp [k1]
      · simp [k0, k1]
def costK (ps : List PK) : Nat := (ps.map fun p => 4 * p.2.length + 1).sum
theorem cost_get {ps : List PK} {i : Nat} {p : PK} (h : ps[i]? = some p) : costK (ps.take i) + (4 * p.2.length + 1) = costK (ps.take (i + 1)) := by
  unfold costK
  rw [List.take_add_one, h]; simp
theorem cost_len (ps : List PK) : ps.length ≤ costK ps := by
  induction ps with
  | nil => exact Nat.zero_le _
  | cons p ps ih => simp [costK] at ih ⊢; omega
theorem cost_take (ps : List PK) (i : Nat) : costK (ps.take i) ≤ costK ps := by
  unfold costK
  conv => rhs; rw [← List.take_append_drop i ps]
  rw [List.map_append, List.sum_append]; omega
theorem two_blk (w : World) (o1 o2 : Obj) : ((w.alloc o1).alloc o2).heap[w.heap.size + 1]? = some o2 := by
  have := blk_new (w.alloc o1) o2
  rw [show (w.alloc o1).heap.size = w.heap.size + 1 from Array.size_push ..] at this
  exact this
/-- What `word` tells. -/
def WpEnd (w0 w : World) (g : Nat) (bs : List UInt8) (W : WK) (e : Ending) (w' : World) : Prop :=
  ∃ b, e = .returned (.bool b) ∧ Chg [] w0 w' ∧ Kept g w w' ∧ (wordK W = none → b = false) ∧ ∀ x, wordK W = some x → b = true ∧ Bd w0 w' g (bs ++ x)
set_option maxRecDepth 100000 in
set_option maxHeartbeats 8000000 in
theorem wordp_any (w0 w : World) (g : Nat) (bs : List UInt8) (at_ kd : Int) (A : Option Addr) (n c' : Nat) (ps : List S41) (hn : n = ps.length) (hk : k41.C w0 A n ps) (h : Bd w0 w g bs) (hlen : bs.length + costK (ps.map pkey) + 3 ≤ 16000000) :
    Calls Try.prog 29 #[.pointer (some ⟨g, 0, none⟩), .agg #[.int .i64 at_, .int .i64 kd, .slice A n c']] w (WpEnd w0 w g bs (kd, ps.map pkey)) := by
  unfold WpEnd
  obtain ⟨PS, hPS⟩ : ∃ PS, ps.map pkey = PS := ⟨_, rfl⟩
  have hPg : ∀ i (h : i < n), PS[i]? = (ps[i]?).map pkey := fun i h => by rw [← hPS, List.getElem?_map]
  have hPl : PS.length = n := by rw [← hPS, List.length_map]; exact hn.symm
  rw [hPS] at hlen ⊢
  replace hPg := Lib.hid hPg
  have hlt := (h.C).size
  obtain ⟨k, hk1⟩ : ∃ k, w.heap.size = k := ⟨_, rfl⟩
  have hA := (Chg.refl [] w).alloc (.cells #[.int .i64 at_, .int .i64 kd, .slice A n c'] 38)
  have hW := blk_new w (.cells #[.int .i64 at_, .int .i64 kd, .slice A n c'] 38)
  have hB1 := h.chg hA
  have hK1 := Kept.of (g := g) hA (by simp)
  rw [hk1] at hW
  have hnk : g < k := by obtain ⟨p, v, _, h⟩ := h; have := lt_heap h.H; omega
  have hcnt : n ≤ 16000000 := by
    have := cost_len PS
    omega
  replace hPl := Lib.hid hPl
  clear hPS
  replace hk := Lib.hid hk
  replace hn := Lib.hid hn
  replace hlen := Lib.hid hlen
  replace hB1 := Lib.hid hB1
  replace hK1 := Lib.hid hK1
  replace hW := Lib.hid hW
  clear hA h hlt
  obtain ⟨bad, hbad⟩ : ∃ bad, (decide (kd < 0) || decide (2 < kd) || (decide (kd = 0) && decide (n = 0)) || (decide (kd = 2) && decide (1 < n))) = bad := ⟨_, rfl⟩
  replace hbad := Lib.hid hbad
  go_enter Try.func29, Try.ntmps29
  go_upto_region 1 with fail
  generalize w.alloc (.cells #[.int .i64 at_, .int .i64 kd, .slice A n c'] 38) = w1 at hB1 hK1 hW ⊢
  obtain ⟨d0, d1, d2⟩ : w1.cell? ⟨k, 0, none⟩ = some (.int .i64 at_) ∧ w1.cell? ⟨k, 1, none⟩ = some (.int .i64 kd) ∧ w1.cell? ⟨k, 2, none⟩ = some (.slice A n c') := by have := hW.out; refine ⟨?_, ?_, ?_⟩ <;> simp [World.cell?, this]
  go_cut [37] (fun v37 wx => v37 = .bool bad ∧ wx = w1)
  case first =>
    clear hB1 hK1 hW hk hlen
    by_cases h1 : kd < 0
    · have e1 : decide (kd < 0) = true := decide_eq_true h1
      obtain rfl : bad = true := by rw [← hbad.out, e1]; rfl
      clear hbad
      go_wp2_with fail
      go_meet
      exact ⟨rfl, rfl⟩
    · have e1 : decide (kd < 0) = false := decide_eq_false h1
      by_cases h2 : 2 < kd
      · have e2 : decide (kd > 2) = true := decide_eq_true h2
        obtain rfl : bad = true := by rw [← hbad.out, e1, decide_eq_true h2]; rfl
        clear hbad
        go_wp2_with fail
        go_meet
        exact ⟨rfl, rfl⟩
      · have e2 : decide (kd > 2) = false := decide_eq_false h2
        obtain rfl | rfl | rfl : kd = 0 ∨ kd = 1 ∨ kd = 2 := by omega
        · by_cases hn0 : n = 0
          · subst hn0
            obtain rfl : bad = true := by rw [← hbad.out]; rfl
            clear hbad
            go_wp2_with fail
            go_meet
            exact ⟨rfl, rfl⟩
          · have en : ((n : Int) == 0) = false := by rw [beq_eq_false_iff_ne]; omega
            obtain rfl : bad = false := by rw [← hbad.out]; simp [hn0]
            clear hbad
            go_wp2_with fail
            go_meet
            exact ⟨rfl, rfl⟩
        · obtain rfl : bad = false := by rw [← hbad.out]; simp
          clear hbad
          go_wp2_with fail
          go_meet
          exact ⟨rfl, rfl⟩
        · by_cases hn1 : 1 < n
          · have en : decide ((n : Int) > 1) = true := by simp; omega
            obtain rfl : bad = true := by rw [← hbad.out]; simp [hn1]
            clear hbad
            go_wp2_with fail
            go_meet
            exact ⟨rfl, rfl⟩
          · have en : decide ((n : Int) > 1) = false := by simp; omega
            obtain rfl : bad = false := by rw [← hbad.out]; simp [hn1]
            clear hbad
            go_wp2_with fail
            go_meet
            exact ⟨rfl, rfl⟩
  case rest =>
  obtain ⟨rfl, hwc⟩ := hcut
  rw [hwc]
  clear hwc wc
  cases bad with
  | true =>
    have hwn : wordK (kd, PS) = none := by
      unfold wordK
      rw [if_pos]
      have := hbad.out
      simp only [Bool.or_eq_true, Bool.and_eq_true, decide_eq_true_eq] at this
      have hn' := hn.out
      rcases this with ((h | h) | h) | h
      · exact .inl h
      · exact .inr (.inl h)
      · refine .inr (.inr (.inl ⟨h.1, ?_⟩))
        show PS = []
        exact List.eq_nil_of_length_eq_zero (by have := hPl.out; omega)
      · refine .inr (.inr (.inr ⟨h.1, ?_⟩))
        show 1 < PS.length
        have := hPl.out
        omega
    have hCw := hB1.out.C
    replace hwn := Lib.hid hwn
    replace hCw := Lib.hid hCw
    clear hbad hB1 hW hlen hk
    go_wp2_with fail
    go_ret
    exact ⟨false, rfl, hCw.out, hK1.out, fun _ => rfl, fun x hx => by rw [hwn.out] at hx; cases hx⟩
  | false =>
    have hk012 : kd = 0 ∨ kd = 1 ∨ kd = 2 := by
      have := hbad.out
      simp only [Bool.or_eq_false_iff, decide_eq_false_iff_not] at this
      omega
    have hwk : wordK (kd, PS) = (partsK kd none PS).map (fun x => openK kd ++ x ++ closeK kd) := wordK_ok (by
      have := hbad.out
      simp only [Bool.or_eq_false_iff, decide_eq_false_iff_not, Bool.and_eq_false_imp, decide_eq_true_eq] at this
      obtain ⟨⟨⟨q1, q2⟩, q3⟩, q4⟩ := this
      have hn' := hn.out
      rintro (h | h | h | h)
      · exact q1 h
      · exact q2 h
      · have h3 := q3 h.1
        have : PS.length = 0 := by rw [h.2]; rfl
        have := hPl.out
        omega
      · have h3 := q4 h.1
        have := h.2
        have := hPl.out
        omega)
    have hn1 : Hid (kd = 2 → n ≤ 1) := Lib.hid (fun h => by
      have := hbad.out
      simp only [Bool.or_eq_false_iff, decide_eq_false_iff_not, Bool.and_eq_false_imp, decide_eq_true_eq] at this
      have := this.2 h
      omega)
    replace hwk := Lib.hid hwk
    replace hk012 := Lib.hid hk012
    clear hbad
    go_upto_region 3 with fail
    go_cut [5] (fun v5 wx => ∃ k5, v5 = .pointer (some ⟨k5, 0, none⟩) ∧ Hid (wx.heap[k5]? = some (.cells #[.string (bstr (openK kd)), .string (bstr (closeK kd))] 84 (0, 0))) ∧ g < k5 ∧ Hid (Chg [] w1 wx))
    case first =>
      clear hB1 hK1 hlen hk hwk hn1
      have hgw : g < w1.heap.size := by have := lt_heap hW.out; omega
      have d1a : ∀ o : Obj, (w1.alloc o).cell? ⟨k, 1, none⟩ = some (.int .i64 kd) := fun o => ((Chg.refl [] w1).alloc o).cell d1 (by simp)
      rcases hk012.out with rfl | rfl | rfl
      · go_wp2_with fail
        go_meet
        refine ⟨_, rfl, Lib.hid ?_, by first | omega | (simp; omega), Lib.hid (((Chg.refl [] w1).alloc _).alloc _)⟩
        exact two_blk _ _ _
      · go_wp2_with fail
        go_meet
        refine ⟨_, rfl, Lib.hid ?_, by first | omega | (simp; omega), Lib.hid (((Chg.refl [] w1).alloc _).alloc _)⟩
        exact two_blk _ _ _
      · go_wp2_with fail
        go_meet
        refine ⟨_, rfl, Lib.hid ?_, by first | omega | (simp; omega), Lib.hid (((Chg.refl [] w1).alloc _).alloc _)⟩
        exact two_blk _ _ _
    case rest =>
    obtain ⟨k5, rfl, hF, hgk5, hC5⟩ := hcut
    have hB2 := Lib.hid (hB1.out.chg hC5.out)
    have hK2 := Lib.hid (hK1.out.trans (Kept.of (g := g) hC5.out (by simp)))
    have hW2 := Lib.hid (hC5.out.heap hW.out (by simp))
    clear hB1 hK1 hW hC5 d0 d1 d2
    go_upto_region 4 with fail
    generalize hOb : bstr (openK kd) = OB at hF
    replace hOb := Lib.hid hOb
    go_cut [] (fun wx => Hid (Bd w0 wx g (bs ++ openK kd)) ∧ Hid (Kept g w wx) ∧ Hid (wx.heap[k5]? = some (.cells #[.string OB, .string (bstr (closeK kd))] 84 (0, 0))) ∧ Hid (wx.heap[k]? = some (.cells #[.int .i64 at_, .int .i64 kd, .slice A n c'] 38 (0, 0))))
    case first =>
      have hws := Lib.hid (fun W (h : Bd w0 W g bs) => writeString_bd w0 W g bs (openK kd) h (by have h1 := open_len kd; have h2 := hlen.out; omega))
      rw [hOb.out] at hws
      have hB3 := Lib.hid (hB2.out.chg (Chg.refl [] wc).drew)
      have hK3 := Lib.hid (hK2.out.trans (Kept.of (g := g) (Chg.refl [] wc).drew (by simp)))
      have hF3 := Lib.hid ((Chg.refl [] wc).drew.heap hF.out (by simp))
      have hW3 := Lib.hid ((Chg.refl [] wc).drew.heap hW2.out (by simp))
      have f0 : wc.drew.cell? ⟨k5, 0, none⟩ = some (.string OB) := by have := hF3.out; simp [World.cell?, this]
      clear hB2 hK2 hF hW2 hwk hk
      refine wp_region_any (by kernel_rfl) ?_
      (try (change wpAny _ _ _ _ _ _ _ (World.drew _)))
      refine wpAny_take (i := 0) (v := ?_) rfl (by kernel_rfl) (by kernel_rfl) (by kernel_rfl) (fun _ _ _ h => h) (Or.inl ⟨by kernel_rfl, ?_⟩) ?_
      rotate_left
      · (intro w; go_simp; try with_reducible rfl)
      change wpAny _ _ _ _ _ _ (Act.put _ (some 46) _) _
      (try simp only [Act.put, List.setIfInBounds_toArray, List.set_cons_zero, List.set_cons_succ])
      (generalize World.drew wc = w6 at hB3 hK3 hF3 hW3 f0 ⊢)
      refine wpAny_take (i := 1) (v := ?_) rfl (by kernel_rfl) (by kernel_rfl) (by kernel_rfl) (fun _ _ _ h => h) (Or.inl ⟨by kernel_rfl, ?_⟩) ?_
      rotate_left
      · (intro w; go_simp; try with_reducible rfl)
      change wpAny _ _ _ _ _ _ (Act.put _ (some 47) _) _
      (try simp only [Act.put, List.setIfInBounds_toArray, List.set_cons_zero, List.set_cons_succ])
      refine wpAny_take (i := 2) (v := ?_) rfl (by kernel_rfl) (by kernel_rfl) (by kernel_rfl) (fun _ _ _ h => h) (Or.inl ⟨by kernel_rfl, ?_⟩) ?_
      rotate_left
      · (intro w; go_simp; try with_reducible rfl)
      change wpAny _ _ _ _ _ _ (Act.put _ (some 48) _) _
      (try simp only [Act.put, List.setIfInBounds_toArray, List.set_cons_zero, List.set_cons_succ])
      refine wpAny_ready (rs := [3]) (by kernel_rfl) (by simp) ?_
      refine AllReady.cons rfl (fun K hK => ?_) ?_
      · go_simp
        (try (refine hK _ _ ?_; clear hK K))
        (try simp only [Act.put, List.setIfInBounds_toArray, List.set_cons_zero, List.set_cons_succ])
        refine wpAny_ready (rs := [4]) (by kernel_rfl) (by simp) ?_
        refine AllReady.cons rfl (fun K hK => ?_) ?_
        · go_simp
          (try (refine hK _ _ ?_; clear hK K))
          (try simp only [Act.put, List.setIfInBounds_toArray, List.set_cons_zero, List.set_cons_succ])
          refine wpAny_ready (rs := [5]) (by kernel_rfl) (by simp) ?_
          refine AllReady.cons rfl (fun K hK => ?_) ?_
          · go_simp
            go_wp2_with (first
                | (refine (hws.out _ hB3.out).mono ?_; rintro e w8 ⟨⟨n9, rfl⟩, hB8, hK8⟩))
            (try (refine hK _ _ ?_; clear hK K))
            (try simp only [Act.put, List.setIfInBounds_toArray, List.set_cons_zero, List.set_cons_succ])
            refine wpAny_done (by kernel_rfl) ?_ _
            (try simp only [Act.put, List.setIfInBounds_toArray, List.set_cons_zero, List.set_cons_succ])
            have hF8 := Lib.hid (hK8.2 _ _ hF3.out (by omega) (by intro cs f h; cases h))
            have hW8 := Lib.hid (hK8.2 _ _ hW3.out (by omega) (by intro cs f h; cases h))
            replace hK8 := Lib.hid (hK3.out.trans hK8)
            replace hB8 := Lib.hid hB8
            clear f0 hF3 hW3 hB3 hK3 hws
            go_wp2_with fail
            go_meet
            exact ⟨hB8, hK8, hF8, hW8⟩
          exact AllReady.nil
        exact AllReady.nil
      exact AllReady.nil
    case rest =>
    clear hB2 hK2 hF hW2
    obtain ⟨hB8, hK8, hF8, hW8⟩ := hcut
    generalize wc = w8 at hB8 hK8 hF8 hW8 ⊢
    have d2 : w8.cell? ⟨k, 2, none⟩ = some (.slice A n c') := by have := hW8.out; simp [World.cell?, this]
    go_upto_block 0 with (fail)
    clear d2
    go_wp2
    go_loopg [55] n (fun gk v55 wr => ∃ (i : Nat) (X : List UInt8), v55 = .int .i64 i ∧ i ≤ n ∧ gk = n - i ∧ X.length ≤ costK (PS.take i) ∧ Hid (Run kd PS i X) ∧ Hid (Bd w0 wr g ((bs ++ openK kd) ++ X)) ∧ Hid (Kept g w wr) ∧ Hid (wr.heap[k5]? = some (.cells #[.string OB, .string (bstr (closeK kd))] 84 (0, 0))) ∧ Hid (wr.heap[k]? = some (.cells #[.int .i64 at_, .int .i64 kd, .slice A n c'] 38 (0, 0))))
    case atStart => exact ⟨0, [], rfl, by omega, by omega, by simp, Lib.hid (run_init _ _), Lib.hid (by rw [List.append_nil]; exact hB8.out), hK8, hF8, hW8⟩
    case round =>
      obtain ⟨i, X, rfl, hi, rfl, hX, hRun, hB, hK, hF, hW⟩ := hrel
      clear hB8 hK8 hF8 hW8
      by_cases hlt : i < n
      · have hil : i < ps.length := by have := hn.out; omega
        have hpi : ps[i]? = some ps[i] := List.getElem?_eq_getElem hil
        obtain ⟨ad, rfl, q1, q2⟩ := at_T41 (Kd.C_below hk.out hB.out.C.below) (i : Int) (by omega) (by omega)
        have er : rd_T41 ps (i : Int) = ps[i] := by unfold rd_T41; simp [List.getD, hil]
        rw [er] at q1 q2
        clear er
        simp only [Int.toNat_natCast] at q1 q2
        have hPi : Hid (PS[i]? = some (pkey ps[i])) := Lib.hid (by rw [hPg.out i hlt, hpi]; rfl)
        generalize ps[i] = p at q1 q2 hpi hPi
        obtain ⟨vr, st⟩ := p
        simp only at q1 q2
        replace hpi := Lib.hid hpi
        have hB7 := Lib.hid (hB.out.chg ((Chg.refl [] wr).alloc (.cells #[.bool vr, .string st] 41)))
        have hK7 := Lib.hid (hK.out.trans (Kept.of (g := g) ((Chg.refl [] wr).alloc (.cells #[.bool vr, .string st] 41)) (by simp)))
        have hF7 := Lib.hid (((Chg.refl [] wr).alloc (.cells #[.bool vr, .string st] 41)).heap hF.out (by simp))
        have hW7 := Lib.hid (((Chg.refl [] wr).alloc (.cells #[.bool vr, .string st] 41)).heap hW.out (by simp))
        have hP7 := Lib.hid (blk_new wr (.cells #[.bool vr, .string st] 41))
        obtain ⟨k7, hk7⟩ : ∃ k7, wr.heap.size = k7 := ⟨_, rfl⟩
        rw [hk7] at hP7
        have hgk7 : g < k7 := by have := lt_heap hF.out; omega
        clear hB hK hF hW
        go_upto_region 9 with fail
        generalize wr.alloc (.cells #[.bool vr, .string st] 41) = w7 at hB7 hK7 hF7 hW7 hP7 ⊢
        clear hk7 q1 q2
        have hP0 : ∀ W : World, Chg [] w7 W → W.cell? ⟨k7, 0, none⟩ = some (.bool vr) ∧ W.cell? ⟨k7, 1, none⟩ = some (.string st) ∧ W.cell? ⟨k, 1, none⟩ = some (.int .i64 kd) ∧ W.cell? ⟨k, 2, none⟩ = some (.slice (some ad) n c') := fun W hC => by
          have h1 := hC.heap hP7.out (by simp)
          have h2 := hC.heap hW7.out (by simp)
          refine ⟨?_, ?_, ?_, ?_⟩ <;> simp [World.cell?, h1, h2]
        obtain ⟨p0, p1, p2, p3⟩ := hP0 w7 (Chg.refl _ _)
        replace hP0 := Lib.hid hP0
        obtain ⟨u, hu⟩ : ∃ u, st.data.toList = u := ⟨_, rfl⟩
        have hst : st = bstr u := by rw [← hu]; rfl
        have hul : u.length = st.size := by rw [hst]; rfl
        have hpk : pkey ⟨vr, st⟩ = (vr, u) := by rw [← hu]; rfl
        rw [hpk] at hPi
        have hcg := cost_get hPi.out
        have hct := cost_take PS (i + 1)
        simp only at hcg
        have hl9 := hlen.out
        have hus : u.length ≤ 4000000 := by omega
        have hte : st.toList = u := by rw [ByteArray.toList_eq]; exact hu
        have hXl : ((bs ++ openK kd) ++ X).length + 4 * u.length + 5 ≤ 16000010 := by
          have := open_len kd
          rw [List.length_append, List.length_append]; omega
        have hrel : ∀ (x : List UInt8) (wx : World), partK kd (prevK PS i) (vr, u) = some x → x.length ≤ 4 * u.length + 1 → Bd w0 wx g (((bs ++ openK kd) ++ X) ++ x) → Kept g w wx → Kept g w7 wx →
            ∃ (i' : Nat) (X' : List UInt8), ((i : Int) + 1) = (i' : Int) ∧ i' ≤ n ∧ n - (i + 1) = n - i' ∧ X'.length ≤ costK (PS.take i') ∧ Hid (Run kd PS i' X') ∧ Hid (Bd w0 wx g ((bs ++ openK kd) ++ X')) ∧ Hid (Kept g w wx) ∧ Hid (wx.heap[k5]? = some (.cells #[.string OB, .string (bstr (closeK kd))] 84 (0, 0))) ∧ Hid (wx.heap[k]? = some (.cells #[.int .i64 at_, .int .i64 kd, .slice (some ad) n c'] 38 (0, 0))) := fun x wx hpa hxl hBx hKx hK7x => by
          refine ⟨i + 1, X ++ x, by omega, by omega, rfl, by rw [List.length_append]; omega, Lib.hid (run_some hRun.out hPi.out hpa), Lib.hid (by rw [← List.append_assoc]; exact hBx), Lib.hid hKx, Lib.hid (hK7x.2 _ _ hF7.out (by omega) (by intro cs f h; cases h)), Lib.hid (hK7x.2 _ _ hW7.out (by omega) (by intro cs f h; cases h))⟩
        have hbadr : ∀ wx, Chg [] w7 wx → partK kd (prevK PS i) (vr, u) = none → Chg [] w0 wx ∧ Kept g w wx ∧ wordK (kd, PS) = none := fun wx hC hpa => ⟨hB7.out.C.trans hC, hK7.out.trans (Kept.of (g := g) hC (by simp)), by rw [hwk.out, run_none hRun.out hPi.out hpa]; rfl⟩
        replace hrel := Lib.hid hrel
        replace hbadr := Lib.hid hbadr
        replace hst := Lib.hid hst
        replace hpk := Lib.hid hpk
        replace hu := Lib.hid hu
        have hul' : u.length ≤ st.size ∧ st.size ≤ u.length := by omega
        replace hul := Lib.hid hul
        replace hte := Lib.hid hte
        replace hcg := Lib.hid hcg
        clear hl9 hct
        obtain ⟨bad1, hbad1⟩ : ∃ bad1, (vr && (decide (kd = 2) || u.isEmpty || decide (64 < u.length) || !u.all nameB)) = bad1 := ⟨_, rfl⟩
        replace hbad1 := Lib.hid hbad1
        go_cut [69] (fun v69 wx => v69 = .bool bad1 ∧ Hid (Chg [] w7 wx))
        case first =>
          clear hrel hbadr hB7 hK7 hF7 hRun hwk
          cases vr with
          | false =>
            obtain rfl : bad1 = false := by rw [← hbad1.out]; rfl
            go_wp2_with fail
            go_meet
            exact ⟨rfl, Lib.hid (Chg.refl _ _)⟩
          | true =>
            by_cases h2 : kd = 2
            · subst h2
              obtain rfl : bad1 = true := by rw [← hbad1.out]; rfl
              clear hbad1
              go_wp2_with fail
              go_meet
              exact ⟨rfl, Lib.hid (Chg.refl _ _)⟩
            · have e2 : (kd == 2) = false := by rw [beq_eq_false_iff_ne]; exact h2
              by_cases he : u = []
              · have e3 : st.toList.isEmpty = true := by rw [hte.out, he]; rfl
                have e4 : st.toList = [] := by rw [hte.out, he]
                obtain rfl : bad1 = true := by rw [← hbad1.out, he]; simp
                clear hbad1
                go_wp2_with fail
                go_meet
                exact ⟨rfl, Lib.hid (Chg.refl _ _)⟩
              · have e3 : st.toList.isEmpty = false := by rw [hte.out]; simpa using he
                have e4 : ¬ st.toList = [] := by rw [hte.out]; exact he
                by_cases h64 : 64 < u.length
                · have e5 : decide ((st.size : Int) > 64) = true := by simp; omega
                  obtain rfl : bad1 = true := by rw [← hbad1.out, decide_eq_true h64]; simp
                  clear hbad1
                  go_wp2_with fail
                  go_meet
                  exact ⟨rfl, Lib.hid (Chg.refl _ _)⟩
                · have e5 : decide ((st.size : Int) > 64) = false := by simp; omega
                  have hot := other_any st (by omega)
                  rw [hu.out] at hot
                  have hb : bad1 = !u.all nameB := by rw [← hbad1.out, decide_eq_false h64, decide_eq_false h2]; simp [he]
                  rw [← hb] at hot
                  replace hot := Lib.hid hot
                  clear hbad1 hb
                  go_wp2_with fail
                  refine (hot.out _).mono ?_
                  rintro e w9 ⟨⟨v, rfl, hv⟩, hC9⟩
                  clear hot
                  go_wp2_with fail
                  go_meet
                  exact ⟨rfl, Lib.hid hC9⟩
        case rest =>
        obtain ⟨rfl, hC⟩ := hcut
        clear p0 p1 p2 p3
        obtain ⟨p0, p1, p2, p3⟩ := hP0.out wc hC.out
        cases bad1 with
        | true =>
          have hv : vr = true := by
            have := hbad1.out
            simp only [Bool.and_eq_true] at this
            exact this.1
          have hpn : partK kd (prevK PS i) (vr, u) = none := by
            rw [hv, partK_var, if_pos]
            have := hbad1.out
            simp only [Bool.and_eq_true] at this
            exact this.2
          have hfin := Lib.hid (hbadr.out wc hC.out hpn)
          clear hrel hbadr hpn
          replace hv := Lib.hid hv
          go_wp2_with fail
          (try rw [Exit.noGoto_ret])
          go_ret
          exact ⟨false, rfl, hfin.out.1, hfin.out.2.1, fun _ => rfl, fun x hx => by rw [hfin.out.2.2] at hx; cases hx⟩
        | false =>
          cases vr with
          | true =>
            have hpa : partK kd (prevK PS i) (true, u) = some (36 :: u) := by
              rw [partK_var, if_neg]
              have := hbad1.out
              simp only [Bool.true_and] at this
              rw [this]; decide
            have hrel2 := Lib.hid (fun wx => hrel.out (36 :: u) wx hpa (by simp only [List.length_cons]; omega))
            have hdol : (⟨#[36]⟩ : ByteArray) ++ st = bstr (36 :: u) := by
              rw [hst.out]
              apply ByteArray.ext
              apply Array.ext'
              simp [bstr]
            have hws := Lib.hid (fun W (h : Bd w0 W g ((bs ++ openK kd) ++ X)) => hdol ▸ writeString_bd w0 W g ((bs ++ openK kd) ++ X) (36 :: u) h (by simp only [List.length_cons]; omega))
            have hcat : ¬ (9223372036854775807 < (⟨#[36]⟩ : ByteArray).size + st.size) := by show ¬ (_ < 1 + _); omega
            have hcat2 : ¬ (9223372036854775807 < 1 + st.size) := by omega
            clear hrel hpa hbadr hdol
            go_upto_region 12 with fail
            obtain ⟨r0, r1, r2, r3⟩ := hP0.out wc.drew hC.out.drew
            have hB9 := Lib.hid (hB7.out.chg hC.out.drew)
            have hKg := Lib.hid (Kept.of (g := g) hC.out.drew (by simp))
            clear p0 p1 p2 p3 hP0 hC
            refine wp_region_any (by kernel_rfl) ?_
            (try (change wpAny _ _ _ _ _ _ _ (World.drew _)))
            refine wpAny_take (i := 0) (v := ?_) rfl (by kernel_rfl) (by kernel_rfl) (by kernel_rfl) (fun _ _ _ h => h) (Or.inl ⟨by kernel_rfl, ?_⟩) ?_
            rotate_left
            · (intro w; go_simp; try with_reducible rfl)
            change wpAny _ _ _ _ _ _ (Act.put _ (some 97) _) _
            (try simp only [Act.put, List.setIfInBounds_toArray, List.set_cons_zero, List.set_cons_succ])
            (generalize World.drew wc = w6 at hB9 hKg r0 r1 r2 r3 ⊢)
            refine wpAny_take (i := 1) (v := ?_) rfl (by kernel_rfl) (by kernel_rfl) (by kernel_rfl) (fun _ _ _ h => h) (Or.inl ⟨by kernel_rfl, ?_⟩) ?_
            rotate_left
            · (intro w; go_simp; try with_reducible rfl)
            change wpAny _ _ _ _ _ _ (Act.put _ (some 98) _) _
            (try simp only [Act.put, List.setIfInBounds_toArray, List.set_cons_zero, List.set_cons_succ])
            refine wpAny_take (i := 2) (v := ?_) rfl (by kernel_rfl) (by kernel_rfl) (by kernel_rfl) (fun _ _ _ h => h) (Or.inl ⟨by kernel_rfl, ?_⟩) ?_
            rotate_left
            · (intro w; go_simp; try with_reducible rfl)
            change wpAny _ _ _ _ _ _ (Act.put _ (some 99) _) _
            (try simp only [Act.put, List.setIfInBounds_toArray, List.set_cons_zero, List.set_cons_succ])
            refine wpAny_take (i := 3) (v := ?_) rfl (by kernel_rfl) (by kernel_rfl) (by kernel_rfl) (fun _ _ _ h => h) (Or.inl ⟨by kernel_rfl, ?_⟩) ?_
            rotate_left
            · (intro w; go_simp; try with_reducible rfl)
            change wpAny _ _ _ _ _ _ (Act.put _ (some 100) _) _
            (try simp only [Act.put, List.setIfInBounds_toArray, List.set_cons_zero, List.set_cons_succ])
            refine wpAny_ready (rs := [4]) (by kernel_rfl) (by simp) ?_
            refine AllReady.cons rfl (fun K hK => ?_) ?_
            · go_simp
              (try (refine hK _ _ ?_; clear hK K))
              (try simp only [Act.put, List.setIfInBounds_toArray, List.set_cons_zero, List.set_cons_succ])
              refine wpAny_take (i := 5) (v := ?_) rfl (by kernel_rfl) (by kernel_rfl) (by kernel_rfl) (fun _ _ _ h => h) (Or.inl ⟨by kernel_rfl, ?_⟩) ?_
              rotate_left
              · (intro w; go_simp; try with_reducible rfl)
              change wpAny _ _ _ _ _ _ (Act.put _ (some 102) _) _
              (try simp only [Act.put, List.setIfInBounds_toArray, List.set_cons_zero, List.set_cons_succ])
              refine wpAny_ready (rs := [6]) (by kernel_rfl) (by simp) ?_
              refine AllReady.cons rfl (fun K hK => ?_) ?_
              · go_simp
                go_wp2_with (first
                    | (refine (hws.out _ hB9.out).mono ?_; rintro e w8 ⟨⟨n9, rfl⟩, hB9', hK9⟩))
                (try (refine hK _ _ ?_; clear hK K))
                (try simp only [Act.put, List.setIfInBounds_toArray, List.set_cons_zero, List.set_cons_succ])
                refine wpAny_done (by kernel_rfl) ?_ _
                (try simp only [Act.put, List.setIfInBounds_toArray, List.set_cons_zero, List.set_cons_succ])
                have hfin := Lib.hid (hrel2.out _ hB9' ((hK7.out.trans hKg.out).trans hK9) (hKg.out.trans hK9))
                clear hB9' hK9 hB9 hKg hws r0 r1 r2 r3
                go_wp2_with fail
                go_roundg (n - (i + 1))
                case measure => omega
                case rel =>
                  obtain ⟨i', X', h1, h2⟩ := hfin.out
                  exact ⟨i', X', by rw [← h1], h2⟩
              exact AllReady.nil
            exact AllReady.nil
          | false =>
            clear hbad1
            have hprev : (i = 0 ∧ prevK PS i = none) ∨ (∃ pv : Bool, 0 < i ∧ prevK PS i = some pv ∧ ∃ (q : S41), ps[i - 1]? = some q ∧ q.f0 = pv) := by
              by_cases hi0 : i = 0
              · exact .inl ⟨hi0, by unfold prevK; rw [if_pos hi0]⟩
              · have hl1 : i - 1 < ps.length := by omega
                refine .inr ⟨ps[i - 1].f0, by omega, ?_, ps[i - 1], List.getElem?_eq_getElem hl1, rfl⟩
                unfold prevK
                rw [if_neg hi0, hPg.out (i - 1) (by omega), List.getElem?_eq_getElem hl1]; rfl
            obtain ⟨bad2, hbad2⟩ : ∃ bad2, (u.isEmpty || (prevK PS i == some false) || (decide (kd = 2) && !wholeB u)) = bad2 := ⟨_, rfl⟩
            replace hbad2 := Lib.hid hbad2
            replace hprev := Lib.hid hprev
            have hkw := Lib.hid (Kd.C_below hk.out (hB7.out.C.trans hC.out).below)
            go_upto_region 13 with fail
            go_cut [104] (fun v104 wx => v104 = .bool bad2 ∧ Hid (Chg [] wc wx))
            case first =>
              clear hrel hbadr hB7 hK7 hF7 hRun hwk hP0 hC
              by_cases he : u = []
              · have e3 : st.toList.isEmpty = true := by rw [hte.out, he]; rfl
                have e4 : st.toList = [] := by rw [hte.out, he]
                obtain rfl : bad2 = true := by rw [← hbad2.out, he]; simp
                clear hbad2
                go_wp2_with fail
                go_meet
                exact ⟨rfl, Lib.hid (Chg.refl _ _)⟩
              · have e3 : st.toList.isEmpty = false := by rw [hte.out]; simpa using he
                have e4 : ¬ st.toList = [] := by rw [hte.out]; exact he
                have heu : u.isEmpty = false := by simpa using he
                rcases hprev.out with ⟨hi0, hpv⟩ | ⟨pv, hi0, hpv, q, hq, hqv⟩
                · have e5 : decide ((i : Int) > 0) = false := by simp; omega
                  have e5n : decide (0 < i) = false := by simp; omega
                  have hEARLY : (u.isEmpty || (prevK PS i == some false)) = false := by rw [heu, hpv]; rfl
                  replace hpv := Lib.hid hpv
                  replace hi0 := Lib.hid hi0
                  by_cases h2 : kd = 2
                  · subst h2
                    have hwo := Lib.hid (fun w => whole_any u (by omega) w)
                    have hb : bad2 = !wholeB u := by rw [← hbad2.out, hEARLY]; simp
                    clear hbad2
                    rw [← hst.out] at hwo
                    cases hwv : wholeB u with
                    | false =>
                      rw [hwv] at hwo hb
                      subst hb
                      go_wp2_with fail
                      refine (hwo.out _).mono ?_
                      rintro e w9 ⟨rfl, hC9⟩
                      clear hwo
                      go_wp2_with fail
                      go_meet
                      exact ⟨rfl, Lib.hid hC9⟩
                    | true =>
                      rw [hwv] at hwo hb
                      subst hb
                      go_wp2_with fail
                      refine (hwo.out _).mono ?_
                      rintro e w9 ⟨rfl, hC9⟩
                      clear hwo
                      go_wp2_with fail
                      go_meet
                      exact ⟨rfl, Lib.hid hC9⟩
                  · have e2 : (kd == 2) = false := by rw [beq_eq_false_iff_ne]; exact h2
                    have hb : bad2 = false := by rw [← hbad2.out, hEARLY, decide_eq_false h2]; rfl
                    subst hb
                    clear hbad2
                    go_wp2_with fail
                    go_meet
                    exact ⟨rfl, Lib.hid (Chg.refl _ _)⟩
                · have e5 : decide ((i : Int) > 0) = true := by simp; omega
                  have e5n : decide (0 < i) = true := by simp; omega
                  have hl1 : i - 1 < ps.length := (List.getElem?_eq_some_iff.1 hq).1
                  obtain ⟨ad2, had, y0, -⟩ := at_T41 hkw.out ((i - 1 : Nat) : Int) (by omega) (by omega)
                  obtain rfl : ad = ad2 := by simpa using had
                  have er : rd_T41 ps ((i - 1 : Nat) : Int) = q := by
                    obtain ⟨h1, h2⟩ := List.getElem?_eq_some_iff.1 hq
                    unfold rd_T41; simp [List.getD, hq]
                  rw [er, hqv] at y0
                  simp only [Int.toNat_natCast] at y0
                  clear er had
                  have ei : (i : Int) - 1 = ((i - 1 : Nat) : Int) := by omega
                  obtain ⟨i1, hi1⟩ : ∃ i1, i - 1 = i1 := ⟨_, rfl⟩
                  rw [hi1] at y0 ei hl1
                  have hb1 : i1 < n := by omega
                  have hw1 : IntKind.i64.wrap ((i : Int) - 1) = (i1 : Int) := by rw [← ei]; exact IntWalk.i64_in _ (by omega)
                  have hEARLY0 : (u.isEmpty || (prevK PS i == some false)) = (!pv) := by rw [heu, hpv]; cases pv <;> rfl
                  replace hpv := Lib.hid hpv
                  replace hi1 := Lib.hid hi1
                  replace hqv := Lib.hid hqv
                  replace hq := Lib.hid hq
                  cases pv with
                  | false =>
                    obtain rfl : bad2 = true := by rw [← hbad2.out, hEARLY0]; rfl
                    clear hbad2 hEARLY0
                    go_wp2_with fail
                    go_meet
                    exact ⟨rfl, Lib.hid (Chg.refl _ _)⟩
                  | true =>
                    have hEARLY := hEARLY0
                    clear hEARLY0
                    by_cases h2 : kd = 2
                    · subst h2
                      have hwo := Lib.hid (fun w => whole_any u (by omega) w)
                      have hb : bad2 = !wholeB u := by rw [← hbad2.out, hEARLY]; simp
                      clear hbad2
                      rw [← hst.out] at hwo
                      cases hwv : wholeB u with
                      | false =>
                        rw [hwv] at hwo hb
                        subst hb
                        go_wp2_with fail
                        refine (hwo.out _).mono ?_
                        rintro e w9 ⟨rfl, hC9⟩
                        clear hwo
                        go_wp2_with fail
                        go_meet
                        exact ⟨rfl, Lib.hid hC9⟩
                      | true =>
                        rw [hwv] at hwo hb
                        subst hb
                        go_wp2_with fail
                        refine (hwo.out _).mono ?_
                        rintro e w9 ⟨rfl, hC9⟩
                        clear hwo
                        go_wp2_with fail
                        go_meet
                        exact ⟨rfl, Lib.hid hC9⟩
                    · have e2 : (kd == 2) = false := by rw [beq_eq_false_iff_ne]; exact h2
                      have hb : bad2 = false := by rw [← hbad2.out, hEARLY, decide_eq_false h2]; rfl
                      subst hb
                      clear hbad2
                      go_wp2_with fail
                      go_meet
                      exact ⟨rfl, Lib.hid (Chg.refl _ _)⟩
            case rest =>
            obtain ⟨rfl, hC2⟩ := hcut
            replace hC := Lib.hid (hC.out.trans hC2.out)
            clear p0 p1 p2 p3 hC2 hkw
            obtain ⟨p0, p1, p2, p3⟩ := hP0.out wc hC.out
            cases bad2 with
            | true =>
              have hpn : partK kd (prevK PS i) (false, u) = none := by rw [partK_text, if_pos hbad2.out]
              have hfin := Lib.hid (hbadr.out wc hC.out hpn)
              clear hrel hbadr hpn hprev
              go_wp2_with fail
              (try rw [Exit.noGoto_ret])
              go_ret
              exact ⟨false, rfl, hfin.out.1, hfin.out.2.1, fun _ => rfl, fun x hx => by rw [hfin.out.2.2] at hx; cases hx⟩
            | false =>
              have hpa : partK kd (prevK PS i) (false, u) = some (if kd = 2 then u else textB (decide (kd = 0)) (prevK PS i).isSome u) := by
                rw [partK_text, if_neg (by rw [hbad2.out]; decide)]
              clear hbadr hbad2
              by_cases h2 : kd = 2
              · subst h2
                rw [if_pos rfl] at hpa
                have hrel2 := Lib.hid (fun wx => hrel.out u wx hpa (by omega))
                have hws := Lib.hid (fun W (h : Bd w0 W g ((bs ++ openK 2) ++ X)) => writeString_bd w0 W g ((bs ++ openK 2) ++ X) u h (by omega))
                rw [← hst.out] at hws
                clear hrel hpa hprev
                go_upto_region 16 with fail
                obtain ⟨r0, r1, r2, r3⟩ := hP0.out wc.drew hC.out.drew
                have hB9 := Lib.hid (hB7.out.chg hC.out.drew)
                have hKg := Lib.hid (Kept.of (g := g) hC.out.drew (by simp))
                clear p0 p1 p2 p3 hP0 hC
                refine wp_region_any (by kernel_rfl) ?_
                (try (change wpAny _ _ _ _ _ _ _ (World.drew _)))
                refine wpAny_take (i := 0) (v := ?_) rfl (by kernel_rfl) (by kernel_rfl) (by kernel_rfl) (fun _ _ _ h => h) (Or.inl ⟨by kernel_rfl, ?_⟩) ?_
                rotate_left
                · (intro w; go_simp; try with_reducible rfl)
                change wpAny _ _ _ _ _ _ (Act.put _ (some 137) _) _
                (try simp only [Act.put, List.setIfInBounds_toArray, List.set_cons_zero, List.set_cons_succ])
                (generalize World.drew wc = w6 at hB9 hKg r0 r1 r2 r3 ⊢)
                refine wpAny_take (i := 1) (v := ?_) rfl (by kernel_rfl) (by kernel_rfl) (by kernel_rfl) (fun _ _ _ h => h) (Or.inl ⟨by kernel_rfl, ?_⟩) ?_
                rotate_left
                · (intro w; go_simp; try with_reducible rfl)
                change wpAny _ _ _ _ _ _ (Act.put _ (some 138) _) _
                (try simp only [Act.put, List.setIfInBounds_toArray, List.set_cons_zero, List.set_cons_succ])
                refine wpAny_take (i := 2) (v := ?_) rfl (by kernel_rfl) (by kernel_rfl) (by kernel_rfl) (fun _ _ _ h => h) (Or.inl ⟨by kernel_rfl, ?_⟩) ?_
                rotate_left
                · (intro w; go_simp; try with_reducible rfl)
                change wpAny _ _ _ _ _ _ (Act.put _ (some 139) _) _
                (try simp only [Act.put, List.setIfInBounds_toArray, List.set_cons_zero, List.set_cons_succ])
                refine wpAny_take (i := 3) (v := ?_) rfl (by kernel_rfl) (by kernel_rfl) (by kernel_rfl) (fun _ _ _ h => h) (Or.inl ⟨by kernel_rfl, ?_⟩) ?_
                rotate_left
                · (intro w; go_simp; try with_reducible rfl)
                change wpAny _ _ _ _ _ _ (Act.put _ (some 140) _) _
                (try simp only [Act.put, List.setIfInBounds_toArray, List.set_cons_zero, List.set_cons_succ])
                refine wpAny_ready (rs := [4]) (by kernel_rfl) (by simp) ?_
                refine AllReady.cons rfl (fun K hK => ?_) ?_
                · go_simp
                  (try (refine hK _ _ ?_; clear hK K))
                  (try simp only [Act.put, List.setIfInBounds_toArray, List.set_cons_zero, List.set_cons_succ])
                  refine wpAny_ready (rs := [5]) (by kernel_rfl) (by simp) ?_
                  refine AllReady.cons rfl (fun K hK => ?_) ?_
                  · go_simp
                    go_wp2_with (first
                        | (refine (hws.out _ hB9.out).mono ?_; rintro e w8 ⟨⟨n9, rfl⟩, hB9', hK9⟩))
                    (try (refine hK _ _ ?_; clear hK K))
                    (try simp only [Act.put, List.setIfInBounds_toArray, List.set_cons_zero, List.set_cons_succ])
                    refine wpAny_done (by kernel_rfl) ?_ _
                    (try simp only [Act.put, List.setIfInBounds_toArray, List.set_cons_zero, List.set_cons_succ])
                    have hfin := Lib.hid (hrel2.out _ hB9' ((hK7.out.trans hKg.out).trans hK9) (hKg.out.trans hK9))
                    clear hB9' hK9 hB9 hKg hws r0 r1 r2 r3
                    go_wp2_with fail
                    go_roundg (n - (i + 1))
                    case measure => omega
                    case rel =>
                      obtain ⟨i', X', h1, h2⟩ := hfin.out
                      exact ⟨i', X', by rw [← h1], h2⟩
                  exact AllReady.nil
                exact AllReady.nil
              · rw [if_neg h2] at hpa
                have hB9 := Lib.hid (hB7.out.chg hC.out)
                have hKg := Lib.hid (Kept.of (g := g) hC.out (by simp))
                obtain ⟨po, hpo⟩ : ∃ po, decide ((i : Int) > 0) = po := ⟨_, rfl⟩
                have hpo2 : decide (0 < i) = po := by rw [← hpo]; simp
                have hps : (prevK PS i).isSome = po := by
                  rw [← hpo]
                  rcases hprev.out with ⟨hi0, hpv⟩ | ⟨pv, hi0, hpv, -⟩
                  · rw [hpv]; simp; omega
                  · rw [hpv]; simp; omega
                have hkk : kd = 0 ∨ kd = 1 := hk012.out.imp id (fun h => h.resolve_right h2)
                rcases hkk with rfl | rfl
                · have hrel2 := Lib.hid (fun wx => hrel.out (textB (decide (((0 : Int)) = 0)) (prevK PS i).isSome u) wx hpa (by have := textB_len (decide (((0 : Int)) = 0)) u (prevK PS i).isSome; omega))
                  rw [hps, show decide (((0 : Int)) = 0) = true from rfl] at hrel2
                  have htx := Lib.hid (text_any w0 wc g ((bs ++ openK 0) ++ X) u true po hB9.out (by omega))
                  rw [← hst.out] at htx
                  clear hrel hpa hprev hP0 hC hps
                  go_wp2_with fail
                  refine (htx.out).mono ?_
                  rintro e w8 ⟨rfl, hB9', hK9⟩
                  have hfin := Lib.hid (hrel2.out _ hB9' ((hK7.out.trans hKg.out).trans hK9) (hKg.out.trans hK9))
                  clear hB9' hK9 hB9 hKg htx p0 p1 p2 p3
                  go_wp2_with fail
                  go_roundg (n - (i + 1))
                  case measure => omega
                  case rel =>
                    obtain ⟨i', X', h1, h2⟩ := hfin.out
                    exact ⟨i', X', by rw [← h1], h2⟩
                · have hrel2 := Lib.hid (fun wx => hrel.out (textB (decide (((1 : Int)) = 0)) (prevK PS i).isSome u) wx hpa (by have := textB_len (decide (((1 : Int)) = 0)) u (prevK PS i).isSome; omega))
                  rw [hps, show decide (((1 : Int)) = 0) = false from rfl] at hrel2
                  have htx := Lib.hid (text_any w0 wc g ((bs ++ openK 1) ++ X) u false po hB9.out (by omega))
                  rw [← hst.out] at htx
                  clear hrel hpa hprev hP0 hC hps
                  go_wp2_with fail
                  refine (htx.out).mono ?_
                  rintro e w8 ⟨rfl, hB9', hK9⟩
                  have hfin := Lib.hid (hrel2.out _ hB9' ((hK7.out.trans hKg.out).trans hK9) (hKg.out.trans hK9))
                  clear hB9' hK9 hB9 hKg htx p0 p1 p2 p3
                  go_wp2_with fail
                  go_roundg (n - (i + 1))
                  case measure => omega
                  case rel =>
                    obtain ⟨i', X', h1, h2⟩ := hfin.out
                    exact ⟨i', X', by rw [← h1], h2⟩
      · obtain rfl : i = n := by omega
        have hE : wordK (kd, PS) = some (openK kd ++ X ++ closeK kd) := by
          rw [hwk.out, run_end (by rw [hPl.out]; exact hRun.out)]; rfl
        have hws := Lib.hid (fun W (h : Bd w0 W g ((bs ++ openK kd) ++ X)) => writeString_bd w0 W g ((bs ++ openK kd) ++ X) (closeK kd) h (by
          have h1 := open_len kd
          have h2 := close_len kd
          have h3 := hlen.out
          have h4 := cost_take PS i
          rw [List.length_append, List.length_append]; omega))
        replace hE := Lib.hid hE
        clear hwk hRun
        go_upto_region 18 with fail
        have hB9 := Lib.hid (hB.out.chg (Chg.refl [] wr).drew)
        have hKg := Lib.hid (hK.out.trans (Kept.of (g := g) (Chg.refl [] wr).drew (by simp)))
        have hF9 := Lib.hid ((Chg.refl [] wr).drew.heap hF.out (by simp))
        have f1 : wr.drew.cell? ⟨k5, 1, none⟩ = some (.string (bstr (closeK kd))) := by have := hF9.out; simp [World.cell?, this]
        clear hB hK hF hW
        refine wp_region_any (by kernel_rfl) ?_
        (try (change wpAny _ _ _ _ _ _ _ (World.drew _)))
        refine wpAny_take (i := 0) (v := ?_) rfl (by kernel_rfl) (by kernel_rfl) (by kernel_rfl) (fun _ _ _ h => h) (Or.inl ⟨by kernel_rfl, ?_⟩) ?_
        rotate_left
        · (intro w; go_simp; try with_reducible rfl)
        change wpAny _ _ _ _ _ _ (Act.put _ (some 144) _) _
        (try simp only [Act.put, List.setIfInBounds_toArray, List.set_cons_zero, List.set_cons_succ])
        (generalize World.drew wr = w6 at hB9 hKg hF9 f1 ⊢)
        refine wpAny_take (i := 1) (v := ?_) rfl (by kernel_rfl) (by kernel_rfl) (by kernel_rfl) (fun _ _ _ h => h) (Or.inl ⟨by kernel_rfl, ?_⟩) ?_
        rotate_left
        · (intro w; go_simp; try with_reducible rfl)
        change wpAny _ _ _ _ _ _ (Act.put _ (some 145) _) _
        (try simp only [Act.put, List.setIfInBounds_toArray, List.set_cons_zero, List.set_cons_succ])
        refine wpAny_take (i := 2) (v := ?_) rfl (by kernel_rfl) (by kernel_rfl) (by kernel_rfl) (fun _ _ _ h => h) (Or.inl ⟨by kernel_rfl, ?_⟩) ?_
        rotate_left
        · (intro w; go_simp; try with_reducible rfl)
        change wpAny _ _ _ _ _ _ (Act.put _ (some 146) _) _
        (try simp only [Act.put, List.setIfInBounds_toArray, List.set_cons_zero, List.set_cons_succ])
        refine wpAny_ready (rs := [3]) (by kernel_rfl) (by simp) ?_
        refine AllReady.cons rfl (fun K hK => ?_) ?_
        · go_simp
          (try (refine hK _ _ ?_; clear hK K))
          (try simp only [Act.put, List.setIfInBounds_toArray, List.set_cons_zero, List.set_cons_succ])
          refine wpAny_ready (rs := [4]) (by kernel_rfl) (by simp) ?_
          refine AllReady.cons rfl (fun K hK => ?_) ?_
          · go_simp
            (try (refine hK _ _ ?_; clear hK K))
            (try simp only [Act.put, List.setIfInBounds_toArray, List.set_cons_zero, List.set_cons_succ])
            refine wpAny_ready (rs := [5]) (by kernel_rfl) (by simp) ?_
            refine AllReady.cons rfl (fun K hK => ?_) ?_
            · go_simp
              go_wp2_with (first
                  | (refine (hws.out _ hB9.out).mono ?_; rintro e w8 ⟨⟨n9, rfl⟩, hB9', hK9⟩))
              (try (refine hK _ _ ?_; clear hK K))
              (try simp only [Act.put, List.setIfInBounds_toArray, List.set_cons_zero, List.set_cons_succ])
              refine wpAny_done (by kernel_rfl) ?_ _
              (try simp only [Act.put, List.setIfInBounds_toArray, List.set_cons_zero, List.set_cons_succ])
              replace hB9' := Lib.hid hB9'
              replace hK9 := Lib.hid (hKg.out.trans hK9)
              clear hB9 hKg hF9 f1 hws
              go_wp2_with fail
              go_ret
              refine ⟨true, rfl, hB9'.out.C, hK9.out, (fun h => by rw [hE.out] at h; cases h), fun x hx => ⟨rfl, ?_⟩⟩
              rw [hE.out] at hx
              cases hx
              have := hB9'.out
              simp only [List.append_assoc] at this ⊢
              exact this
            exact AllReady.nil
          exact AllReady.nil
        exact AllReady.nil
end Go.Proofs.Yteodhnblbehenaa
