/- Contract of package tcl's Print. Conditions: as it states. -/
import Derived.Test.YteodhnblbehenaaTclPr3
set_option linter.unusedVariables false
set_option linter.unusedSimpArgs false
namespace Go.Proofs.Yteodhnblbehenaa
open Go.RowKit Tcl PTclParses YteodhnblbehenaaW.PrintWords
theorem parts_len {kd : Int} : ∀ (ps : List PK) (prev : Option Bool) (x : List UInt8), partsK kd prev ps = some x → x.length ≤ costK ps := by
  intro ps
  induction ps with
  | nil => intro prev x h; rw [partsK] at h; cases h; exact Nat.zero_le _
  | cons p ps ih =>
    intro prev x h
    rw [partsK] at h
    split at h
    · cases h
    · rename_i y hy
      split at h
      · cases h
      · rename_i z hz
        cases h
        have h1 := ih _ _ hz
        have h2 : y.length ≤ 4 * p.2.length + 1 := by
          unfold partK at hy
          split at hy
          · split at hy
            · cases hy
            · cases hy; simp only [List.length_cons]; omega
          · split at hy
            · cases hy
            · split at hy
              · cases hy; omega
              · cases hy
                have := textB_len (decide (kd = 0)) p.2 prev.isSome; omega
        simp only [costK, List.map_cons, List.sum_cons] at h1 ⊢
        rw [List.length_append]; omega
theorem word_len {W : WK} {x : List UInt8} (h : wordK W = some x) : x.length ≤ costK W.2 + 2 := by
  unfold wordK at h
  split at h
  · cases h
  · split at h
    · cases h
    · rename_i y hy
      have := parts_len _ _ _ hy
      cases h
      split
      · omega
      · split <;> simp <;> omega
def costW (W : WK) : Nat := costK W.2 + 4
def costC (c : CK) : Nat := (c.map costW).sum + 1
def costL (l : List CK) : Nat := (l.map costC).sum
theorem sum_get {α : Type} (f : α → Nat) {l : List α} {i : Nat} {a : α} (h : l[i]? = some a) : ((l.take i).map f).sum + f a = ((l.take (i + 1)).map f).sum := by
  rw [List.take_add_one, h]; simp
theorem sum_take {α : Type} (f : α → Nat) (l : List α) (i : Nat) : ((l.take i).map f).sum ≤ (l.map f).sum := by
  conv => rhs; rw [← List.take_append_drop i l]
  rw [List.map_append, List.sum_append]; omega
theorem sum_len {α : Type} (f : α → Nat) (hf : ∀ a, 1 ≤ f a) (l : List α) : l.length ≤ (l.map f).sum := by
  induction l with
  | nil => exact Nat.zero_le _
  | cons a l ih => have := hf a; simp; omega
/-- Words behind `j` others. -/
def restK (j : Nat) (ws : CK) : Option (List UInt8) := if j = 0 then cmdK ws else moreK ws
def RunW (c : CK) (j : Nat) (Y : List UInt8) : Prop := cmdK c = (restK j (c.drop j)).map (Y ++ ·)
theorem runW_init (c : CK) : RunW c 0 [] := by
  unfold RunW restK
  rw [if_pos rfl, List.drop_zero]
  cases cmdK c <;> simp
theorem runW_none {c : CK} {j : Nat} {Y : List UInt8} {W : WK} (h : RunW c j Y) (hW : c[j]? = some W) (hn : wordK W = none) : cmdK c = none := by
  obtain ⟨hl, he⟩ := List.getElem?_eq_some_iff.1 hW
  rw [h, List.drop_eq_getElem_cons hl, he]
  unfold restK
  split
  · rw [cmdK, hn]; rfl
  · rw [moreK, hn]; rfl
theorem runW_some {c : CK} {j : Nat} {Y x : List UInt8} {W : WK} (h : RunW c j Y) (hW : c[j]? = some W) (hn : wordK W = some x) : RunW c (j + 1) (Y ++ ((if j = 0 then [] else [32]) ++ x)) := by
  obtain ⟨hl, he⟩ := List.getElem?_eq_some_iff.1 hW
  unfold RunW at h ⊢
  rw [h, List.drop_eq_getElem_cons hl, he]
  unfold restK
  rw [if_neg (show ¬ j + 1 = 0 by omega)]
  by_cases hj : j = 0
  · rw [if_pos hj, if_pos hj, cmdK, hn]
    cases moreK (c.drop (j + 1)) <;> simp
  · rw [if_neg hj, if_neg hj, moreK, hn]
    cases moreK (c.drop (j + 1)) <;> simp
theorem runW_end {c : CK} {Y : List UInt8} (h : RunW c c.length Y) (h0 : c ≠ []) : cmdK c = some Y := by
  rw [h, List.drop_length]
  unfold restK
  rw [if_neg (by intro e; exact h0 (List.eq_nil_of_length_eq_zero e)), moreK]; simp
def RunL (l : List CK) (i : Nat) (X : List UInt8) : Prop := printK l = (printK (l.drop i)).map (X ++ ·)
theorem runL_init (l : List CK) : RunL l 0 [] := by
  unfold RunL
  rw [List.drop_zero]
  cases printK l <;> simp
theorem runL_none {l : List CK} {i : Nat} {X : List UInt8} {c : CK} (h : RunL l i X) (hc : l[i]? = some c) (hn : cmdK c = none) : printK l = none := by
  obtain ⟨hl, he⟩ := List.getElem?_eq_some_iff.1 hc
  rw [h, List.drop_eq_getElem_cons hl, he, printK, hn]; rfl
theorem runL_some {l : List CK} {i : Nat} {X x : List UInt8} {c : CK} (h : RunL l i X) (hc : l[i]? = some c) (hn : cmdK c = some x) : RunL l (i + 1) (X ++ (x ++ [10])) := by
  obtain ⟨hl, he⟩ := List.getElem?_eq_some_iff.1 hc
  unfold RunL at h ⊢
  rw [h, List.drop_eq_getElem_cons hl, he, printK, hn]
  cases printK (l.drop (i + 1)) <;> simp
theorem runL_end {l : List CK} {X : List UInt8} (h : RunL l l.length X) : printK l = some X := by
  rw [h, List.drop_length, printK]; simp
/-- What `Print` tells. -/
def PrEnd (w : World) (l : List CK) (e : Ending) (w' : World) : Prop :=
  Chg [] w w' ∧ ((∃ t, printK l = some t ∧ t.length ≤ 15000000 ∧ e = .returned (.tuple #[.string (bstr t), .int .i64 0])) ∨ (printK l = none ∧ e = .returned (.tuple #[.string (bstr []), .int .i64 2])))
set_option maxRecDepth 100000 in
set_option maxHeartbeats 8000000 in
theorem print_any (w : World) (A : Option Addr) (n c : Nat) (l : List S33) (hn : n = l.length) (hk : k33.C w A n l) (hlen : costL (l.map ckey) ≤ 15000000) :
    Calls Try.prog 17 #[.slice A n c] w (PrEnd w (l.map ckey)) := by
  unfold PrEnd
  obtain ⟨KS, hKS⟩ : ∃ KS, l.map ckey = KS := ⟨_, rfl⟩
  have hKg : ∀ i (h : i < n), KS[i]? = (l[i]?).map ckey := fun i h => by rw [← hKS, List.getElem?_map]
  have hKl : KS.length = n := by rw [← hKS, List.length_map]; exact hn.symm
  rw [hKS] at hlen ⊢
  have hn9 : n ≤ 15000000 := by
    have := sum_len costC (fun a => by unfold costC; omega) KS
    unfold costL at hlen
    omega
  have hB0 := Bd.init w
  obtain ⟨g, hg⟩ : ∃ g, w.heap.size = g := ⟨_, rfl⟩
  rw [hg] at hB0
  replace hKg := Lib.hid hKg
  replace hKl := Lib.hid hKl
  replace hk := Lib.hid hk
  replace hlen := Lib.hid hlen
  replace hB0 := Lib.hid hB0
  replace hn := Lib.hid hn
  clear hKS
  go_enter Try.func17, Try.ntmps17
  go_upto_block 0 with (fail)
  generalize w.alloc (.cells #[.pointer none, .slice none 0 0] 69) = w1 at hB0 ⊢
  replace hg := Lib.hid hg
  go_wp2
  go_loopg [11] n (fun gk v11 wr => ∃ (i : Nat) (X : List UInt8), v11 = .int .i64 i ∧ i ≤ n ∧ gk = n - i ∧ X.length ≤ costL (KS.take i) ∧ Hid (RunL KS i X) ∧ Hid (Bd w wr g X))
  case atStart => exact ⟨0, [], rfl, by omega, by omega, by simp, Lib.hid (runL_init _), hB0⟩
  case round =>
    obtain ⟨i, X, rfl, hi, rfl, hX, hRun, hB⟩ := hrel
    clear hB0
    by_cases hlt : i < n
    · have hil : i < l.length := by have := hn.out; omega
      obtain ⟨ad, A1, c1, rfl, q1, q2, hc1, hk1⟩ := at_T33 hk.out (i : Int) (by omega) (by omega)
      replace q1 := hB.out.C.cell q1 (by simp)
      replace q2 := hB.out.C.cell q2 (by simp)
      have er : rd_T33 l (i : Int) = l[i] := by unfold rd_T33; simp [List.getD, hil]
      rw [er] at q1 q2 hc1 hk1
      clear er
      simp only [Int.toNat_natCast] at q1 q2
      have hCi : Hid (KS[i]? = some (ckey l[i])) := Lib.hid (by rw [hKg.out i hlt, List.getElem?_eq_getElem hil]; rfl)
      generalize l[i] = cm at q1 q2 hc1 hk1 hCi
      obtain ⟨at_, ws⟩ := cm
      simp only at q1 q2 hc1 hk1
      obtain ⟨C, hC⟩ : ∃ C, ckey ⟨at_, ws⟩ = C := ⟨_, rfl⟩
      rw [hC] at hCi
      obtain ⟨m, hm⟩ : ∃ m, ws.length = m := ⟨_, rfl⟩
      have hCg : ∀ j (h : j < m), C[j]? = (ws[j]?).map wkey := fun j h => by rw [← hC]; show (ws.map wkey)[j]? = _; rw [List.getElem?_map]
      have hCl : C.length = m := by rw [← hC, ← hm]; show (ws.map wkey).length = _; rw [List.length_map]
      rw [hm] at q2 hc1 hk1
      have hcost := sum_get costC hCi.out
      have hcost2 := sum_take costC KS (i + 1)
      have hl9 := hlen.out
      unfold costL at hl9 hX
      have hcC : costC C = (C.map costW).sum + 1 := rfl
      have hm9 : m ≤ 15000000 := by
        have := sum_len costW (fun a => by unfold costW; omega) C
        omega
      have hXC : X.length + (C.map costW).sum + 1 ≤ 15000000 := by omega
      have hX2 : Hid (X.length + (C.map costW).sum + 1 ≤ costL (KS.take (i + 1))) := Lib.hid (by unfold costL; omega)
      clear hcost hcost2 hl9 hcC hX
      replace hm := Lib.hid hm
      replace hC := Lib.hid hC
      replace hCg := Lib.hid hCg
      replace hCl := Lib.hid hCl
      have hA := (Chg.refl [] wr).alloc (.cells #[.int .i64 at_, .slice A1 m c1] 33)
      replace hk1 := Lib.hid hk1
      have hB6 := Lib.hid (hB.out.chg hA)
      clear hA hB
      by_cases hm0 : m = 0
      · subst hm0
        have hcn : cmdK C = none := by
          have : C = [] := List.eq_nil_of_length_eq_zero hCl.out
          rw [this]; rfl
        have hpn := Lib.hid (runL_none hRun.out hCi.out hcn)
        have hCw := Lib.hid hB6.out.C
        clear hcn hB6
        go_wp2_with fail
        (try rw [Exit.noGoto_ret])
        go_ret2
        exact ⟨hCw.out, .inr ⟨hpn.out, rfl⟩⟩
      · have em : ((m : Int) == 0) = false := by rw [beq_eq_false_iff_ne]; omega
        go_upto_block 2 with (fail)
        generalize wr.alloc (.cells #[.int .i64 at_, .slice A1 m c1] 33) = w6 at hB6 ⊢
        clear q1 q2
        go_cut [] (fun wx => ∃ Y, Hid (cmdK C = some Y) ∧ Y.length ≤ (C.map costW).sum ∧ Hid (Bd w wx g (X ++ Y)))
        case first =>
          go_wp2
          go_loopg [22] m (fun gk v22 wx => ∃ (j : Nat) (Y : List UInt8), v22 = .int .i64 j ∧ j ≤ m ∧ gk = m - j ∧ Y.length ≤ ((C.take j).map costW).sum ∧ Hid (RunW C j Y) ∧ Hid (Bd w wx g (X ++ Y)))
          case atStart => exact ⟨0, [], rfl, by omega, by omega, by simp, Lib.hid (runW_init _), Lib.hid (by rw [List.append_nil]; exact hB6.out)⟩
          case round =>
            clear hB6
            obtain ⟨j, Y, rfl, hj, rfl, hY, hRw, hBx⟩ := hrel
            by_cases hlt2 : j < m
            · have hjl : j < ws.length := by have := hm.out; omega
              obtain ⟨ad2, A2, c2, rfl, z0, z1, z2, hc2, hk2⟩ := at_T38 hk1.out (j : Int) (by omega) (by omega)
              replace z0 := hBx.out.C.cell z0 (by simp)
              replace z1 := hBx.out.C.cell z1 (by simp)
              replace z2 := hBx.out.C.cell z2 (by simp)
              have er : rd_T38 ws (j : Int) = ws[j] := by unfold rd_T38; simp [List.getD, hjl]
              rw [er] at z0 z1 z2 hc2 hk2
              clear er
              simp only [Int.toNat_natCast] at z0 z1 z2
              have hWi : Hid (C[j]? = some (wkey ws[j])) := Lib.hid (by rw [hCg.out j hlt2, List.getElem?_eq_getElem hjl]; rfl)
              generalize ws[j] = wd at z0 z1 z2 hc2 hk2 hWi
              obtain ⟨wat, kd, ps⟩ := wd
              simp only at z0 z1 z2 hc2 hk2
              obtain ⟨K, hK⟩ : ∃ K, ps.map pkey = K := ⟨_, rfl⟩
              have hWi2 : wkey ⟨wat, kd, ps⟩ = (kd, K) := by rw [← hK]; rfl
              rw [hWi2] at hWi
              have hc9 := sum_get costW hWi.out
              have hc8 := sum_take costW C (j + 1)
              have hcw : costW (kd, K) = costK K + 4 := rfl
              obtain ⟨q, hq⟩ : ∃ q, ps.length = q := ⟨_, rfl⟩
              rw [hq] at z2 hc2 hk2
              replace hq := Lib.hid hq.symm
              have hWk := Lib.hid hK
              replace hk2 := Lib.hid hk2
              clear hWi2 hK hc2
              have hA := (Chg.refl [] wr).alloc (.cells #[.int .i64 wat, .int .i64 kd, .slice A2 q c2] 38)
              have hB8 := Lib.hid (hBx.out.chg hA)
              have hP8 := Lib.hid (blk_new wr (.cells #[.int .i64 wat, .int .i64 kd, .slice A2 q c2] 38))
              have hgk8 : g < wr.heap.size := by obtain ⟨p, v, _, h⟩ := hBx.out; exact lt_heap h.H
              obtain ⟨k8, hk8⟩ : ∃ k8, wr.heap.size = k8 := ⟨_, rfl⟩
              rw [hk8] at hP8 hgk8
              clear hA hBx
              go_upto_region 10 with fail
              generalize wr.alloc (.cells #[.int .i64 wat, .int .i64 kd, .slice A2 q c2] 38) = w8 at hB8 hP8 ⊢
              clear hk8 z0 z1 z2
              by_cases hj0 : j = 0
              · subst hj0
                have hBs : Hid (Bd w w8 g (X ++ Y ++ [])) := Lib.hid (by rw [List.append_nil]; exact hB8.out)
                have hPs := hP8
                clear hB8 hP8
                generalize w8 = w9 at hBs hPs ⊢
                have hW9 : Hid (Bd w w9 g (X ++ Y ++ [])) := hBs
                obtain ⟨y0, y1, y2⟩ : w9.cell? ⟨k8, 0, none⟩ = some (.int .i64 wat) ∧ w9.cell? ⟨k8, 1, none⟩ = some (.int .i64 kd) ∧ w9.cell? ⟨k8, 2, none⟩ = some (.slice A2 q c2) := by have := hPs.out; refine ⟨?_, ?_, ?_⟩ <;> simp [World.cell?, this]
                have hcall := Lib.hid (wordp_any w w9 g (X ++ Y ++ []) wat kd A2 q c2 ps hq.out hk2.out hW9.out (by rw [hWk.out, List.length_append, List.length_append]; simp; omega))
                rw [hWk.out] at hcall
                unfold WpEnd at hcall
                go_wp2_with fail
                refine (hcall.out).mono ?_
                rintro e w10 ⟨b, rfl, hC10, -, hn10, hs10⟩
                clear hcall
                cases hwv : wordK (kd, K) with
                | none =>
                  obtain rfl : b = false := hn10 hwv
                  have hpn := Lib.hid (runL_none hRun.out hCi.out (runW_none hRw.out hWi.out hwv))
                  replace hC10 := Lib.hid hC10
                  clear hn10 hs10 hwv hBs hPs hW9
                  go_wp2_with fail
                  (try rw [Exit.noGoto_ret])
                  go_ret2
                  exact ⟨hC10.out, .inr ⟨hpn.out, rfl⟩⟩
                | some x =>
                  obtain ⟨rfl, hB10⟩ := hs10 x hwv
                  have hxl := word_len hwv
                  have hr2 := Lib.hid (runW_some hRw.out hWi.out hwv)
                  rw [if_pos rfl] at hr2
                  have hB11 : Hid (Bd w w10 g (X ++ (Y ++ ([] ++ x)))) := Lib.hid (by simp only [List.append_assoc] at hB10 ⊢; exact hB10)
                  have hyl : (Y ++ ([] ++ x)).length ≤ ((C.take (0 + 1)).map costW).sum := by
                    have : costW (kd, K) = costK K + 4 := rfl
                    simp only [List.length_append, List.length_cons, List.length_nil] at hxl ⊢; omega
                  clear hn10 hs10 hwv hB10 hxl hC10 hBs hPs hW9
                  go_wp2_with fail
                  go_roundg (m - (0 + 1))
                  case measure => omega
                  case rel => exact ⟨0 + 1, _, by go_num, by omega, rfl, hyl, hr2, hB11⟩
              · have e0 : decide ((j : Int) > 0) = true := by simp; omega
                have e0n : decide (0 < j) = true := by simp; omega
                have hwb := Lib.hid (writeByte_bd w w8 g (X ++ Y) 32 hB8.out (by rw [List.length_append]; omega))
                go_wp2_with fail
                refine (hwb.out).mono ?_
                rintro e w9 ⟨rfl, hB9, hK9⟩
                have hBs := Lib.hid hB9
                have hPs := Lib.hid (hK9.2 _ _ hP8.out (by omega) (by intro cs f h; cases h))
                clear hwb hB9 hK9 hB8 hP8
                have hW9 : Hid (Bd w w9 g (X ++ Y ++ [32])) := hBs
                obtain ⟨y0, y1, y2⟩ : w9.cell? ⟨k8, 0, none⟩ = some (.int .i64 wat) ∧ w9.cell? ⟨k8, 1, none⟩ = some (.int .i64 kd) ∧ w9.cell? ⟨k8, 2, none⟩ = some (.slice A2 q c2) := by have := hPs.out; refine ⟨?_, ?_, ?_⟩ <;> simp [World.cell?, this]
                have hcall := Lib.hid (wordp_any w w9 g (X ++ Y ++ [32]) wat kd A2 q c2 ps hq.out hk2.out hW9.out (by rw [hWk.out, List.length_append, List.length_append]; simp; omega))
                rw [hWk.out] at hcall
                unfold WpEnd at hcall
                go_wp2_with fail
                refine (hcall.out).mono ?_
                rintro e w10 ⟨b, rfl, hC10, -, hn10, hs10⟩
                clear hcall
                cases hwv : wordK (kd, K) with
                | none =>
                  obtain rfl : b = false := hn10 hwv
                  have hpn := Lib.hid (runL_none hRun.out hCi.out (runW_none hRw.out hWi.out hwv))
                  replace hC10 := Lib.hid hC10
                  clear hn10 hs10 hwv hBs hPs hW9
                  go_wp2_with fail
                  (try rw [Exit.noGoto_ret])
                  go_ret2
                  exact ⟨hC10.out, .inr ⟨hpn.out, rfl⟩⟩
                | some x =>
                  obtain ⟨rfl, hB10⟩ := hs10 x hwv
                  have hxl := word_len hwv
                  have hr2 := Lib.hid (runW_some hRw.out hWi.out hwv)
                  rw [if_neg (by omega)] at hr2
                  have hB11 : Hid (Bd w w10 g (X ++ (Y ++ ([32] ++ x)))) := Lib.hid (by simp only [List.append_assoc] at hB10 ⊢; exact hB10)
                  have hyl : (Y ++ ([32] ++ x)).length ≤ ((C.take (j + 1)).map costW).sum := by
                    have : costW (kd, K) = costK K + 4 := rfl
                    simp only [List.length_append, List.length_cons, List.length_nil] at hxl ⊢; omega
                  clear hn10 hs10 hwv hB10 hxl hC10 hBs hPs hW9
                  go_wp2_with fail
                  go_roundg (m - (j + 1))
                  case measure => omega
                  case rel => exact ⟨j + 1, _, by go_num, by omega, rfl, hyl, hr2, hB11⟩
            · obtain rfl : j = m := by omega
              have hcne : C ≠ [] := fun h => hm0 (by rw [← hCl.out, h]; rfl)
              have hY2 := Lib.hid (runW_end (by rw [hCl.out]; exact hRw.out) hcne)
              have hYl2 : Y.length ≤ (C.map costW).sum := Nat.le_trans hY (sum_take costW C j)
              clear hcne
              go_wp2_with fail
              go_meet
              exact ⟨Y, hY2, hYl2, hBx⟩
        case rest =>
        obtain ⟨Y, hY, hYl, hB7⟩ := hcut
        clear hB6
        have hwb := Lib.hid (writeByte_bd w wc g (X ++ Y) 10 hB7.out (by rw [List.length_append]; omega))
        have hrel : Hid (∀ wx, Bd w wx g (X ++ Y ++ [10]) → ∃ (i' : Nat) (X' : List UInt8), ((i : Int) + 1) = (i' : Int) ∧ i' ≤ n ∧ n - (i + 1) = n - i' ∧ X'.length ≤ costL (KS.take i') ∧ Hid (RunL KS i' X') ∧ Hid (Bd w wx g X')) := Lib.hid (fun wx hb => ⟨i + 1, X ++ (Y ++ [10]), by omega, by omega, rfl, by
          have := hX2.out
          rw [List.length_append, List.length_append]; simp; omega, Lib.hid (runL_some hRun.out hCi.out hY.out), Lib.hid (by rw [← List.append_assoc]; exact hb)⟩)
        go_wp2_with fail
        refine (hwb.out).mono ?_
        rintro e w8 ⟨rfl, hB8, -⟩
        have hfin := Lib.hid (hrel.out _ hB8)
        clear hB8 hwb hrel hB7
        go_wp2_with fail
        go_roundg (n - (i + 1))
        case measure => omega
        case rel =>
          obtain ⟨i', X', h1, h2⟩ := hfin.out
          exact ⟨i', X', by rw [← h1], h2⟩
    · obtain rfl : i = n := by omega
      have hp := Lib.hid (runL_end (by rw [hKl.out]; exact hRun.out))
      have hXl : X.length ≤ 15000000 := by
        have h1 := sum_take costC KS i
        have h2 := hlen.out
        unfold costL at hX h2
        omega
      have hle := Lib.hid (len_bd w wr g X hB.out)
      have hse := Lib.hid (string_bd w wr g X hB.out)
      have hd : decide ((X.length : Int) > 16777216) = false := by simp; omega
      go_wp2_with fail
      refine (hle.out).mono ?_
      rintro e w8 ⟨rfl, h8⟩
      rw [h8]
      clear h8 hle
      go_wp2_with fail
      refine (hse.out).mono ?_
      rintro e w9 ⟨rfl, hC9⟩
      replace hC9 := Lib.hid hC9
      clear hse hB
      go_wp2_with fail
      go_ret2
      exact ⟨hC9.out, .inl ⟨X, hp.out, hXl, rfl⟩⟩
end Go.Proofs.Yteodhnblbehenaa
