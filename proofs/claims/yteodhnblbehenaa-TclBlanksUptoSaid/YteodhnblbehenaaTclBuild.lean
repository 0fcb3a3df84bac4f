/- A strings.Builder that lies in a printer: its methods. Conditions: as they state. -/
import Derived.Test.YteodhnblbehenaaTclFlush
import Derived.Lib.Builder
import Derived.Lib.AppendStr
import Derived.Lib.UnsafeStr
import Derived.Shelf.RegionOpenPlain
set_option linter.unusedVariables false
set_option linter.unusedSimpArgs false
namespace Go.Proofs.Yteodhnblbehenaa
open Go.RowKit Tcl
/-- Blocks that are no rows of bytes, but for `g`, stand. -/
def Kept (g : Nat) (w w' : World) : Prop := w.heap.size ≤ w'.heap.size ∧ ∀ k o, w.heap[k]? = some o → k ≠ g → (∀ cs f, o ≠ .cells cs 5 f) → w'.heap[k]? = some o
theorem Kept.refl (g : Nat) (w : World) : Kept g w w := ⟨Nat.le_refl _, fun _ _ h _ _ => h⟩
theorem Kept.trans {g : Nat} {a b c : World} (h : Kept g a b) (k : Kept g b c) : Kept g a c := ⟨Nat.le_trans h.1 k.1, fun i o h1 h2 h3 => k.2 i o (h.2 i o h1 h2 h3) h2 h3⟩
theorem Kept.of {g : Nat} {S : List Nat} {a b : World} (h : Chg S a b) (hS : ∀ k ∈ S, k = g ∨ ∃ cs f, a.heap[k]? = some (.cells cs 5 f)) : Kept g a b := by
  refine ⟨h.size, fun k o h1 h2 h3 => h.heap h1 (fun hm => ?_)⟩
  rcases hS k hm with e | ⟨cs, f, e⟩
  · exact h2 e
  · rw [e] at h1; cases h1; exact h3 _ _ rfl
/-- A builder at `g`, new since `w0`. -/
structure BdP (w0 w : World) (g : Nat) (p v : Value) (bs : List UInt8) : Prop where
  s : w0.heap.size = g
  C : Chg [] w0 w
  H : w.heap[g]? = some (.cells #[p, v] 69 (0, 0))
  O : w.ownsRow (g + 1) 5 1 v bs.length (cellsOf .u8 (nums bs))
def Bd (w0 w : World) (g : Nat) (bs : List UInt8) : Prop := ∃ p v, (p = .pointer none ∨ p = .pointer (some ⟨g, 0, none⟩)) ∧ BdP w0 w g p v bs
theorem BdP.chg {w0 w w' : World} {g : Nat} {p v : Value} {bs : List UInt8} (h : BdP w0 w g p v bs) (hc : Chg [] w w') : BdP w0 w' g p v bs :=
  ⟨h.s, h.C.trans hc, hc.heap h.H (by simp), own_chg h.O hc (by simp)⟩
theorem Bd.chg {w0 w w' : World} {g : Nat} {bs : List UInt8} (h : Bd w0 w g bs) (hc : Chg [] w w') : Bd w0 w' g bs := by
  obtain ⟨p, v, hp, h⟩ := h
  exact ⟨p, v, hp, h.chg hc⟩
theorem Bd.C {w0 w : World} {g : Nat} {bs : List UInt8} (h : Bd w0 w g bs) : Chg [] w0 w := by
  obtain ⟨p, v, hp, h⟩ := h
  exact h.C
theorem Bd.init (w : World) : Bd w (w.alloc (.cells #[.pointer none, .slice none 0 0] 69)) w.heap.size [] :=
  ⟨_, _, .inl rfl, rfl, (Chg.refl [] w).alloc _, blk_new _ _, World.ownsRow_nil _ _ _ _⟩
theorem BdP.slice {w0 w : World} {g : Nat} {p v : Value} {bs : List UInt8} (h : BdP w0 w g p v bs) : ∃ A c, v = .slice A bs.length c := by
  rcases h.O.2 with ⟨hv, h0⟩ | ⟨q, cap, cur, hv, _⟩
  · exact ⟨none, 0, by rw [hv, h0]⟩
  · exact ⟨_, _, hv⟩
set_option maxRecDepth 100000 in
set_option maxHeartbeats 4000000 in
theorem copyCheck_used (w : World) (g : Nat) (h0 : w.cell? ⟨g, 0, none⟩ = some (.pointer (some ⟨g, 0, none⟩))) :
    Calls Try.prog 44 #[.pointer (some ⟨g, 0, none⟩)] w fun e w' => e = .returned (.tuple #[]) ∧ w' = w := by
  obtain ⟨j, hj⟩ : ∃ j, Try.prog.info? 67 = some j := by
    cases h : Try.prog.info? 67 with
    | some j => exact ⟨j, rfl⟩
    | none => have : (Try.prog.info? 67).isSome = true := by kernel_rfl
              rw [h] at this; cases this
  go_enter Try.func44, Try.ntmps44
  go_wp2_with fail
  rw [Lib.run_neq_ptr_same w _ Try.underlying65 hj]
  go_wp2_with fail
  go_end0
  exact ⟨rfl, rfl⟩
set_option maxRecDepth 100000 in
set_option maxHeartbeats 4000000 in
theorem copyCheck_fresh (w : World) (g : Nat) (v : Value) (h : w.heap[g]? = some (.cells #[.pointer none, v] 69 (0, 0))) :
    Calls Try.prog 44 #[.pointer (some ⟨g, 0, none⟩)] w fun e w' => e = .returned (.tuple #[]) ∧ w' = w.setCell ⟨g, 0, none⟩ (.pointer (some ⟨g, 0, none⟩)) := by
  have h0 : w.cell? ⟨g, 0, none⟩ = some (.pointer none) := by simp [World.cell?, h]
  have hfz : w.frozen? ⟨g, 0, none⟩ = false := by simp [World.frozen?, h]
  have hsh : w.shape? g = some (69, 2) := by simp [World.shape?, h]
  replace h := Lib.hid h
  obtain ⟨j, hj, hjs⟩ : ∃ j, Try.prog.info? 67 = some j ∧ j.size = 2 := by
    have : (Try.prog.info? 67).map (·.size) = some 2 := by kernel_rfl
    obtain ⟨j, hj, hs⟩ := Option.map_eq_some_iff.1 this
    exact ⟨j, hj, hs⟩
  go_enter Try.func44, Try.ntmps44
  go_wp2_with fail
  rw [Lib.run_to_unsafe w ⟨g, 0, none⟩ Try.underlying65 Try.underlying97 hj (by rw [hjs]; decide) hsh (Nat.zero_lt_succ 1)]
  simp only [Result.andThen]
  rw [Oper.upon_value]
  go_wp2_with fail
  rw [run_callFunc_extern Try.func58 (by kernel_rfl) (by kernel_rfl) (by kernel_rfl) (e := Extern.AbiNoEscape.same) (by kernel_rfl)]
  rw [Lib.run_noEscape]
  simp only [Result.andThen]
  rw [Oper.upon_value]
  go_wp2_with fail
  rw [Lib.run_from_unsafe w ⟨g, 0, none⟩ Try.underlying97 Try.underlying65 hj hsh (by kernel_rfl)]
  simp only [Result.andThen]
  rw [Oper.upon_value]
  go_wp2_with fail
  go_end0
  exact ⟨rfl, rfl⟩
theorem copyCheck_bd (w0 w : World) (g : Nat) (bs : List UInt8) (h : Bd w0 w g bs) :
    Calls Try.prog 44 #[.pointer (some ⟨g, 0, none⟩)] w fun e w' => e = .returned (.tuple #[]) ∧ (∃ v, BdP w0 w' g (.pointer (some ⟨g, 0, none⟩)) v bs) ∧ Kept g w w' := by
  obtain ⟨p, v, hp, h⟩ := h
  rcases hp with rfl | rfl
  · refine (copyCheck_fresh w g v h.H).mono ?_
    rintro e w' ⟨rfl, rfl⟩
    have hSt : Chg [g] w (w.setCell ⟨g, 0, none⟩ (.pointer (some ⟨g, 0, none⟩))) := (Chg.refl [g] w).setCell (.inl (by simp)) _
    refine ⟨rfl, ⟨v, h.s, h.C.then hSt (fun q hq => .inr (by have := h.s; simp at hq; omega)), by simpa using blk_set h.H 0 (.pointer (some ⟨g, 0, none⟩)), own_chg h.O hSt (fun q hq hm => by have := (h.O.lt q hq).1; simp at hm; omega)⟩, Kept.of hSt (fun k hk => .inl (by simpa using hk))⟩
  · refine (copyCheck_used w g (by have := h.H; simp [World.cell?, this])).mono ?_
    rintro e w' ⟨rfl, rfl⟩
    exact ⟨rfl, ⟨v, h⟩, Kept.refl _ _⟩
/-- A new buffer is laid into the builder. -/
theorem BdP.put {w0 w w' : World} {g : Nat} {p v v' : Value} {bs bs' : List UInt8} (h : BdP w0 w g p v bs) (hc : Chg v.ownBlock.toList w w') (hO : w'.ownsRow (g + 1) 5 1 v' bs'.length (cellsOf .u8 (nums bs'))) :
    (w'.cell? ⟨g, 1, none⟩ = some v ∧ w'.frozen? ⟨g, 1, none⟩ = false) ∧ BdP w0 (w'.setCell ⟨g, 1, none⟩ v') g p v' bs' ∧ Kept g w (w'.setCell ⟨g, 1, none⟩ v') := by
  have hb := hc.heap h.H (fun hm => by have := (h.O.lt g (by simpa using hm)).1; omega)
  have hSt : Chg [g] w' (w'.setCell ⟨g, 1, none⟩ v') := (Chg.refl [g] w').setCell (.inl (by simp)) _
  refine ⟨⟨by simp [World.cell?, hb], by simp [World.frozen?, hb]⟩, ⟨h.s, ?_, by simpa using blk_set hb 1 v', own_chg hO hSt (fun q hq hm => by have := (hO.lt q hq).1; simp at hm; omega)⟩, ?_⟩
  · exact (h.C.then hc (fun q hq => .inr (by have := (h.O.lt q (by simpa using hq)).1; have := h.s; omega))).then hSt (fun q hq => .inr (by have := h.s; simp at hq; omega))
  · refine (Kept.of hc (fun k hk => .inr ?_)).trans (Kept.of hSt (fun k hk => .inl (by simpa using hk)))
    rcases h.O.2 with ⟨hv, _⟩ | ⟨q, cap, cur, hv, _, hq, _⟩
    · rw [hv] at hk; simp [Value.ownBlock] at hk
    · rw [hv] at hk; simp [Value.ownBlock] at hk; subst hk; exact ⟨_, _, hq⟩
theorem Try.info_u8b : ∃ i, Try.prog.info? 5 = some i ∧ i.zero = some (.int .u8 0) ∧ i.size = 1 ∧ i.bytes = 1 := by
  have h : (Try.prog.info? 5).map (fun i => (i.zero, i.size, i.bytes)) = some (some (.int .u8 0), 1, 1) := by kernel_rfl
  obtain ⟨i, hi, hs⟩ := Option.map_eq_some_iff.1 h
  simp only [Prod.mk.injEq] at hs
  exact ⟨i, hi, hs.1, hs.2.1, hs.2.2⟩
set_option maxRecDepth 100000 in
set_option maxHeartbeats 4000000 in
theorem writeByte_bd (w0 w : World) (g : Nat) (bs : List UInt8) (c : UInt8) (h : Bd w0 w g bs) (hlen : bs.length ≤ 70368744177664) :
    Calls Try.prog 28 #[.pointer (some ⟨g, 0, none⟩), .int .u8 c.toNat] w fun e w' => e = .returned .nilIface ∧ Bd w0 w' g (bs ++ [c]) ∧ Kept g w w' := by
  have hcc := Lib.hid (copyCheck_bd w0 w g bs h)
  obtain ⟨i0, hi, hz0, hz1, hz2⟩ := Try.info_u8b
  go_enter Try.func28, Try.ntmps28
  go_wp2_with fail
  refine (hcc.out).mono ?_
  rintro e w1 ⟨rfl, ⟨v, hB⟩, hK⟩
  obtain ⟨A, cp, rfl⟩ := hB.slice
  have c1 : w1.cell? ⟨g, 1, none⟩ = some (.slice A bs.length cp) := by have := hB.H; simp [World.cell?, this]
  have hb1 : g + 1 ≤ w1.heap.size := by have := lt_heap hB.H; omega
  replace hB := Lib.hid hB
  replace hK := Lib.hid hK
  clear h hcc
  go_wp2_with (at_builtin; refine wpList_append_sl rfl (.tmp 11) (.tmp 13) 35 rfl (g + 1) 5 (.int .u8 0) 1 1 Try.underlying35 (by kernel_rfl) rfl (by decide) (.slice A bs.length cp) bs.length (cellsOf .u8 (nums bs)) rfl (hB.out.O.alloc _) _ 1 [.int .u8 c.toNat] rfl (sl_new w1 _ 5 1 rfl (by decide)) (by intro u hu; simp at hu; subst hu; rfl) (bs.length + 1) rfl (by omega) (by decide) (by have h2 : (w1.alloc (.cells #[.int .u8 c.toNat] 5)).heap.size = w1.heap.size + 1 := Array.size_push ..; omega) ?_)
  intro A' c' w2 hO' hCh hat
  have e1 : cellsOf .u8 (nums bs) ++ [.int .u8 c.toNat] = cellsOf .u8 (nums (bs ++ [c])) := by rw [nums_append, cellsOf_append]; rfl
  rw [e1] at hO'
  have hC2 := ((Chg.refl (Value.slice A bs.length cp).ownBlock.toList w1).alloc (.cells #[.int .u8 c.toNat] 5)).trans hCh
  obtain ⟨⟨p1, p2⟩, hB2, hK2⟩ := hB.out.put (bs' := bs ++ [c]) hC2 (by rw [List.length_append]; exact hO')
  replace hB2 := Lib.hid hB2
  replace hK2 := Lib.hid (hK.out.trans hK2)
  clear hO' hCh hat hC2 e1 c1
  go_wp2_with fail
  go_ret
  exact ⟨rfl, ⟨_, _, .inr rfl, hB2.out⟩, hK2.out⟩
set_option maxRecDepth 100000 in
set_option maxHeartbeats 4000000 in
theorem writeString_bd (w0 w : World) (g : Nat) (bs s : List UInt8) (h : Bd w0 w g bs) (hlen : bs.length + s.length ≤ 70368744177664) :
    Calls Try.prog 45 #[.pointer (some ⟨g, 0, none⟩), .string (bstr s)] w fun e w' => (∃ n : Int, e = .returned (.tuple #[.int .i64 n, .nilIface])) ∧ Bd w0 w' g (bs ++ s) ∧ Kept g w w' := by
  have hcc := Lib.hid (copyCheck_bd w0 w g bs h)
  obtain ⟨i0, hi, hz0, hz1, hz2⟩ := Try.info_u8b
  have hsz : (bstr s).size = s.length := rfl
  have hcl : Lib.strCells (bstr s) = cellsOf .u8 (nums s) := by unfold Lib.strCells cellsOf nums; rw [List.map_map]; rfl
  obtain ⟨B, hBs⟩ : ∃ B, bstr s = B := ⟨_, rfl⟩
  rw [hBs] at hsz hcl ⊢
  replace hsz := Lib.hid hsz
  replace hcl := Lib.hid hcl
  clear hBs
  go_enter Try.func45, Try.ntmps45
  go_wp2_with fail
  refine (hcc.out).mono ?_
  rintro e w1 ⟨rfl, ⟨v, hB⟩, hK⟩
  obtain ⟨A, cp, rfl⟩ := hB.slice
  have c1 : w1.cell? ⟨g, 1, none⟩ = some (.slice A bs.length cp) := by have := hB.H; simp [World.cell?, this]
  have hb1 : g + 1 ≤ w1.heap.size := by have := lt_heap hB.H; omega
  replace hB := Lib.hid hB
  replace hK := Lib.hid hK
  clear h hcc
  go_wp2_with (at_builtin; refine Lib.wpList_append_own_string _ rfl (.tmp 12) (.tmp 13) 35 9 rfl (g + 1) 5 i0 Try.underlying35 Try.underlying9 hi hz0 hz1 hz2 (.slice A bs.length cp) bs.length (cellsOf .u8 (nums bs)) rfl hB.out.O B rfl (by have := hsz.out; unfold maxLen; omega) (by have := hsz.out; omega) hb1 ?_)
  intro v' w2 hO' hgr _
  have e1 : cellsOf .u8 (nums bs) ++ Lib.strCells B = cellsOf .u8 (nums (bs ++ s)) := by rw [hcl.out, nums_append, cellsOf_append]
  rw [e1] at hO'
  obtain ⟨⟨p1, p2⟩, hB2, hK2⟩ := hB.out.put (bs' := bs ++ s) (Chg.of_grown hgr) (by rw [List.length_append, ← hsz.out]; exact hO')
  obtain ⟨A', n', c', rfl⟩ : ∃ A' n' c', v' = .slice A' n' c' := by
    obtain ⟨A', c', h⟩ := hB2.slice
    exact ⟨A', _, c', h⟩
  replace hB2 := Lib.hid hB2
  replace hK2 := Lib.hid (hK.out.trans hK2)
  clear hO' hgr e1 c1
  go_wp2_with fail
  go_ret2
  exact ⟨⟨_, rfl⟩, ⟨_, _, .inr rfl, hB2.out⟩, hK2.out⟩
set_option maxRecDepth 100000 in
set_option maxHeartbeats 4000000 in
theorem len_bd (w0 w : World) (g : Nat) (bs : List UInt8) (h : Bd w0 w g bs) :
    Calls Try.prog 30 #[.pointer (some ⟨g, 0, none⟩)] w fun e w' => e = .returned (.int .i64 bs.length) ∧ w' = w := by
  obtain ⟨p, v, hp, h⟩ := h
  obtain ⟨A, cp, rfl⟩ := h.slice
  have c1 : w.cell? ⟨g, 1, none⟩ = some (.slice A bs.length cp) := by have := h.H; simp [World.cell?, this]
  clear h hp
  go_enter Try.func30, Try.ntmps30
  go_wp2_with fail
  go_ret
  exact ⟨rfl, rfl⟩
set_option maxRecDepth 100000 in
set_option maxHeartbeats 4000000 in
theorem string_bd (w0 w : World) (g : Nat) (bs : List UInt8) (h : Bd w0 w g bs) :
    Calls Try.prog 31 #[.pointer (some ⟨g, 0, none⟩)] w fun e w' => e = .returned (.string (bstr bs)) ∧ Chg [] w0 w' := by
  have mixed : Try.prog.follows Departure.mixedOrders = true := by kernel_rfl
  obtain ⟨p, v, hp, h⟩ := h
  have hCw := h.C
  by_cases h0 : bs = []
  · subst h0
    have hUS : ∀ (W : World) (q : Option Addr), (Builtin.unsafeString_ #[91, 3] 9 #[.pointer q, .int .i64 0]).run Try.prog W = .ok (.string .empty) W := fun W q => Lib.run_unsafeString_none W _ _ _ q
    rcases h.O.2 with ⟨rfl, _⟩ | ⟨q, cap, cur, rfl, hq, hg, hc1, hc2, hc3, _⟩
    · have c1 : w.drew.cell? ⟨g, 1, none⟩ = some (.slice none 0 0) := by have := h.H; show w.cell? _ = _; simp [World.cell?, this]
      have hSD : (Builtin.unsafeSliceData_ #[35] 91 #[.slice none 0 0]).run Try.prog w.drew = .ok (.pointer none) w.drew := rfl
      have hCw2 := Lib.hid hCw.drew
      clear h hp
      go_enter Try.func31, Try.ntmps31
      go_wp2_with fail
      go_region_o
      all_goals (go_wp2; go_ret; exact ⟨rfl, hCw2.out⟩)
    · by_cases hc0 : cap = 0
      · subst hc0
        have hb := h.H
        have hbq : ∀ k, k < w.heap.size → (w.drew.alloc (.view ⟨q, 0, none⟩ 5)).heap[k]? = w.heap[k]? := fun k hk => Lib.alloc_old w.drew _ k hk
        have c1 : w.drew.cell? ⟨g, 1, none⟩ = some (.slice (some ⟨q, 0, none⟩) 0 0) := by show w.cell? _ = _; simp [World.cell?, hb]
        have c0 : w.cell? ⟨g, 1, none⟩ = some (.slice (some ⟨q, 0, none⟩) 0 0) := c1
        have c2 : (w.drew.alloc (.view ⟨q, 0, none⟩ 5)).cell? ⟨g, 1, none⟩ = some (.slice (some ⟨q, 0, none⟩) 0 0) := by
          have : (w.drew.alloc (.view ⟨q, 0, none⟩ 5)).heap[g]? = _ := (hbq g (lt_heap hb)).trans hb
          simp [World.cell?, this]
        have c3 : (w.alloc (.view ⟨q, 0, none⟩ 5)).drew.cell? ⟨g, 1, none⟩ = some (.slice (some ⟨q, 0, none⟩) 0 0) := c2
        have hSD : (Builtin.unsafeSliceData_ #[35] 91 #[.slice (some ⟨q, 0, none⟩) 0 0]).run Try.prog w.drew = .ok (.pointer (some ⟨w.heap.size, 0, none⟩)) (w.drew.alloc (.view ⟨q, 0, none⟩ 5)) := by
          exact Lib.run_unsafeSliceData_zero (P := Try.prog) w.drew #[35] 91 5 Try.underlying91 ⟨q, 0, none⟩ 0 (5, cur.size) (by show w.shape? q = _; simp [World.shape?, hg])
        have hCw2 := Lib.hid (hCw.drew.alloc (.view ⟨q, 0, none⟩ 5))
        clear h hp hb hbq hg
        go_enter Try.func31, Try.ntmps31
        go_wp2_with fail
        go_region_o
        all_goals (go_wp2; go_ret; exact ⟨rfl, hCw2.out⟩)
      · have c1 : w.drew.cell? ⟨g, 1, none⟩ = some (.slice (some ⟨q, 0, none⟩) 0 cap) := by have := h.H; show w.cell? _ = _; simp [World.cell?, this]
        have hSD : (Builtin.unsafeSliceData_ #[35] 91 #[.slice (some ⟨q, 0, none⟩) 0 cap]).run Try.prog w.drew = .ok (.pointer (some ⟨q, 0, none⟩)) w.drew := Lib.run_unsafeSliceData_row _ _ _ _ _ _ hc0
        have hCw2 := Lib.hid hCw.drew
        clear h hp hc0 hg hc1 hc2 hc3
        go_enter Try.func31, Try.ntmps31
        go_wp2_with fail
        go_region_o
        all_goals (go_wp2; go_ret; exact ⟨rfl, hCw2.out⟩)
  · have hl0 : bs.length ≠ 0 := by simpa using h0
    obtain ⟨q, cap, cur, rfl, hq, hg, hnc, hcm, hcs, htake⟩ : ∃ q cap cur, v = .slice (some ⟨q, 0, none⟩) bs.length cap ∧ g + 1 ≤ q ∧ w.heap[q]? = some (.cells cur 5 (0, 0)) ∧ bs.length ≤ cap ∧ cap ≤ maxLen ∧ cur.size = cap * 1 ∧ cur.toList.take (bs.length * 1) = cellsOf .u8 (nums bs) := by
      rcases h.O.2 with ⟨_, hz⟩ | ⟨q, cap, cur, hv, r⟩
      · exact absurd hz hl0
      · exact ⟨q, cap, cur, hv, r⟩
    have c1 : w.drew.cell? ⟨g, 1, none⟩ = some (.slice (some ⟨q, 0, none⟩) bs.length cap) := by have := h.H; show w.cell? _ = _; simp [World.cell?, this]
    have hSD : (Builtin.unsafeSliceData_ #[35] 91 #[.slice (some ⟨q, 0, none⟩) bs.length cap]).run Try.prog w.drew = .ok (.pointer (some ⟨q, 0, none⟩)) w.drew := Lib.run_unsafeSliceData_row _ _ _ _ _ _ (by omega)
    have hUS : (Builtin.unsafeString_ #[91, 3] 9 #[.pointer (some ⟨q, 0, none⟩), .int .i64 bs.length]).run Try.prog w.drew = .ok (.string (bstr bs)) (w.drew.freeze ⟨q, 0, none⟩ bs.length) := by
      refine Lib.run_unsafeString_row w.drew 91 3 9 5 Try.underlying91 (by kernel_rfl) q cur.size (by show w.shape? q = _; simp [World.shape?, hg]) bs h0 (by omega) (by unfold maxLen at hcm; omega) ?_
      intro j x hx
      exact h.O.cells (g := q) rfl j (.int .u8 x.toNat) (by simp [cellsOf, nums, hx])
    have hCw2 : Hid (Chg [] w0 (w.drew.freeze ⟨q, 0, none⟩ bs.length)) := Lib.hid (Chg.of_below (Lib.below_freeze hCw.drew.below (p := ⟨q, 0, none⟩) (by show w0.heap.size ≤ q; have := h.s; omega) _))
    clear h hp hg hnc hcm hcs htake hl0
    go_enter Try.func31, Try.ntmps31
    go_wp2_with fail
    go_region_o
    all_goals (go_wp2; go_ret; exact ⟨rfl, hCw2.out⟩)
end Go.Proofs.Yteodhnblbehenaa
