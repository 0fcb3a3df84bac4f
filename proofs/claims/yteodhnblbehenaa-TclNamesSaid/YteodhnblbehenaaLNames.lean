/- The law TclNames, walked. No condition. -/
import Derived.Test.YteodhnblbehenaaTclAlive
import Derived.Test.YteodhnblbehenaaTclNames
import Derived.Test.YteodhnblbehenaaTclU8
import Derived.Deep.LoopGhost
import Derived.Deep.CutBlock
import Derived.Deep.DeepCutAuto
set_option linter.unusedVariables false
set_option linter.unusedSimpArgs false
namespace Go.Proofs.Yteodhnblbehenaa
open Go.RowKit Tcl
theorem parse_small {s : List UInt8} {r : Except Bad (List Cmd)} (hs : s.length ≤ 16777216) (h : parseGo s 0 [] = r) : parse s = r := by unfold parse; rw [if_neg (by omega), h]
def nameAt (c : UInt8) : UInt8 := ([97, 98, 99, 120, 121, 122, 65, 66, 67, 88, 89, 90, 48, 49, 56, 57, 95] : List UInt8).getD (c.toNat % 17) 0
def endAt (c : UInt8) : UInt8 := ([45, 46, 44, 58, 47, 61, 43, 64, 37, 94, 126, 33, 63, 40, 41, 60, 62, 124, 38, 39, 42] : List UInt8).getD (c.toNat % 21) 0
theorem name_get (r : Nat) (h : r < (⟨#[97, 98, 99, 120, 121, 122, 65, 66, 67, 88, 89, 90, 48, 49, 56, 57, 95]⟩ : ByteArray).size) :
    (⟨#[97, 98, 99, 120, 121, 122, 65, 66, 67, 88, 89, 90, 48, 49, 56, 57, 95]⟩ : ByteArray)[r] = ([97, 98, 99, 120, 121, 122, 65, 66, 67, 88, 89, 90, 48, 49, 56, 57, 95] : List UInt8).getD r 0 := by
  have h' : r < 17 := h
  have H : ∀ r : Fin 17, (⟨#[97, 98, 99, 120, 121, 122, 65, 66, 67, 88, 89, 90, 48, 49, 56, 57, 95]⟩ : ByteArray)[r.val]'r.isLt = ([97, 98, 99, 120, 121, 122, 65, 66, 67, 88, 89, 90, 48, 49, 56, 57, 95] : List UInt8).getD r.val 0 := by decide
  exact H ⟨r, h'⟩
theorem end_get (r : Nat) (h : r < (⟨#[45, 46, 44, 58, 47, 61, 43, 64, 37, 94, 126, 33, 63, 40, 41, 60, 62, 124, 38, 39, 42]⟩ : ByteArray).size) :
    (⟨#[45, 46, 44, 58, 47, 61, 43, 64, 37, 94, 126, 33, 63, 40, 41, 60, 62, 124, 38, 39, 42]⟩ : ByteArray)[r] = ([45, 46, 44, 58, 47, 61, 43, 64, 37, 94, 126, 33, 63, 40, 41, 60, 62, 124, 38, 39, 42] : List UInt8).getD r 0 := by
  have h' : r < 21 := h
  have H : ∀ r : Fin 21, (⟨#[45, 46, 44, 58, 47, 61, 43, 64, 37, 94, 126, 33, 63, 40, 41, 60, 62, 124, 38, 39, 42]⟩ : ByteArray)[r.val]'r.isLt = ([45, 46, 44, 58, 47, 61, 43, 64, 37, 94, 126, 33, 63, 40, 41, 60, 62, 124, 38, 39, 42] : List UInt8).getD r.val 0 := by decide
  exact H ⟨r, h'⟩
theorem nameAt_name (c : UInt8) : nameB (nameAt c) = true := by
  have h : c.toNat % 17 < 17 := Nat.mod_lt _ (by decide)
  unfold nameAt
  generalize c.toNat % 17 = r at h ⊢
  revert r; decide
theorem endAt_end (c : UInt8) : endOf (endAt c) := by
  have h : c.toNat % 21 < 21 := Nat.mod_lt _ (by decide)
  unfold endAt endOf
  generalize c.toNat % 21 = r at h ⊢
  revert r; decide
set_option maxRecDepth 100000 in
set_option maxHeartbeats 16000000 in
theorem tclNames_walk (A : Option Addr) (bs : List UInt8) (cap : Nat) (behind : UInt8) (q : Bool) (w : World) (hS : Sl w 1 (.slice A bs.length cap) bs.length (u8s bs)) (hl : bs.length ≤ cap) (hc : cap ≤ 9223372036854775807) :
    Calls Try.prog 6 #[.slice A bs.length cap, .int .u8 behind.toNat, .bool q] w fun e w' => e = .returned (.bool true) ∧ Below w.heap.size w w' := by
  replace hS := Lib.hid hS
  go_enter Try.func6, Try.ntmps6
  go_upto_region 2 with fail
  go_cut [7, 21, 22, 23] (fun v7 v21 v22 v23 wx => ∃ M : Nat, M ≤ 80 ∧ M ≤ bs.length ∧ v7 = .string ByteArray.empty ∧ v21 = .slice A M cap ∧ v22 = .int .i64 M ∧ v23 = .int .i64 0 ∧ wx = w)
  case first =>
    go_wp2_with fail
    all_goals
      go_meet
      first
      | exact ⟨80, by omega, by omega, rfl, rfl, rfl, rfl, rfl⟩
      | exact ⟨bs.length, by omega, by omega, rfl, rfl, rfl, rfl, rfl⟩
  case rest =>
  obtain ⟨M, hM, hM2, rfl, rfl, rfl, rfl, rfl⟩ := hcut
  go_wp2_with fail
  go_loopw [7, 23] (fun v7 v23 wr => ∃ (j : Nat) (z : ByteArray), v7 = .string z ∧ v23 = .int .i64 j ∧ j ≤ M ∧ z.size ≤ 0 + j ∧ Hid (z = bstr ((bs.take j).map nameAt)) ∧ Hid (Chg [] wc wr)) (fun _ v23 _ => M - (intOf v23).toNat)
  case atStart => exact ⟨0, _, rfl, rfl, by omega, by decide, (show _ = _ from rfl), Lib.hid (Chg.refl _ _)⟩
  case round =>
    obtain ⟨j, z, rfl, rfl, hj, hz, hZ, hD⟩ := hrel
    by_cases hlt : j < M
    · have hjl : j < bs.length := by omega
      obtain ⟨ad, rfl, hcell⟩ : ∃ ad, A = some ad ∧ wr.cell? (ad.add j) = some (.int .u8 bs[j].toNat) := by
        obtain ⟨A0, c0, e0, h0, h1, h2, h3, h4⟩ := hS.out
        obtain ⟨rfl, rfl⟩ : A0 = A ∧ c0 = cap := by simp at e0; exact ⟨e0.1.symm, e0.2.symm⟩
        obtain ⟨ad, rfl, hr⟩ := h4 (by simp [u8s]; omega)
        exact ⟨ad, rfl, hD.out.cell (hr j _ (by simp [u8s, List.getElem?_eq_getElem hjl])) (by simp)⟩
      obtain ⟨c, hcb⟩ : ∃ c, bs[j] = c := ⟨_, rfl⟩
      rw [hcb] at hcell
      have hT : Hid (bs.take (j + 1) = bs.take j ++ [c]) := by show _ = _; rw [List.take_succ_eq_append_getElem hjl, hcb]
      clear hcb
      have b1 : (0 : Int) ≤ c.toNat := by omega
      have b2 : (c.toNat : Int) ≤ 255 := by have := c.toNat_lt; omega
      go_wp2_with fail
      go_roundw
      case rel =>
        refine ⟨j + 1, _, rfl, by go_num, by omega, ?_, ?_, Lib.hid (hD.out.alloc _)⟩
        · rw [ByteArray.size_append]; show z.size + 1 ≤ _; omega
        · show _ = _
          rw [hT.out, hZ.out, List.map_append, ← bstr_app, name_get]; rfl
      case measure => simp [intOf]; omega
    · obtain rfl : M = j := by omega
      clear hlt
      obtain ⟨S, hSd⟩ : ∃ S, (bs.take M).map nameAt = S := ⟨_, rfl⟩
      have hSl : S.length = M := by rw [← hSd]; simp; omega
      have hSn : S.all nameB = true := by rw [← hSd, List.all_map]; simp; intro x _; exact nameAt_name x
      have hzS := hZ.out
      rw [hSd] at hzS
      clear hSd
      have c1 : (0 : Int) ≤ behind.toNat := by omega
      have c2 : (behind.toNat : Int) ≤ 255 := by have := behind.toNat_lt; omega
      have hE := endAt_end behind
      have hEg : ∀ h, (⟨#[45, 46, 44, 58, 47, 61, 43, 64, 37, 94, 126, 33, 63, 40, 41, 60, 62, 124, 38, 39, 42]⟩ : ByteArray)[behind.toNat % 21]'h = endAt behind := fun h => end_get _ h
      generalize endAt behind = E at hE hEg
      have hA := bstr_app S [E]
      have hB1 : (⟨#[115, 101, 110, 100, 32, 97, 36]⟩ : ByteArray) ++ z ++ bstr [E] = bstr (nameT false S E) := by
        rw [hzS]; refine bstr_of ?_; rw [app_list, app_list]; rfl
      have hB2 : (⟨#[115, 101, 110, 100, 32, 34, 97, 36]⟩ : ByteArray) ++ z ++ bstr [E] ++ ⟨#[34]⟩ = bstr (nameT true S E) := by
        rw [hzS]; refine bstr_of ?_; rw [app_list, app_list, app_list]; simp [nameT, bstr]
      have hzz : z.size = S.length := by rw [hzS]; rfl
      have hpar := Lib.hid (fun W q' => parse_any W (nameT q' S E) (by cases q' <;> simp [nameT] <;> omega))
      have hlong := Lib.hid (fun q' (h : 64 < S.length) => parse_small (by cases q' <;> simp [nameT] <;> omega) (names_long q' S E hSn hE h))
      have hfine := Lib.hid (fun q' (h : S.length ≤ 64) => parse_small (by cases q' <;> simp [nameT] <;> omega) (names_fine q' S E hSn hE h))
      obtain ⟨B1, hb1⟩ : ∃ B, bstr (nameT false S E) = B := ⟨_, rfl⟩
      obtain ⟨B2, hb2⟩ : ∃ B, bstr (nameT true S E) = B := ⟨_, rfl⟩
      rw [hb1] at hB1
      rw [hb2] at hB2
      have hp1 := Lib.hid (fun W => hb1 ▸ hpar.out W false)
      have hp2 := Lib.hid (fun W => hb2 ▸ hpar.out W true)
      replace hD := Lib.hid hD.out
      replace hzS := Lib.hid hzS
      clear hA hZ hE hb1 hb2 hpar
      cases q
      · by_cases h64 : 64 < S.length
        · have h64b : decide ((64 : Int) < z.size) = true := by simp; omega
          go_wp2_with fail
          refine (hp1.out _).mono ?_
          rintro e w5 h5
          obtain ⟨hC1, rfl⟩ := parse_bad h5 (hlong.out false h64)
          replace hC1 := Lib.hid (((hD.out.alloc _).trans hC1))
          clear h5
          simp only [if_true, if_false, Bool.false_eq_true] at *
          go_wp2_with fail
          refine (alive_any _).mono ?_
          rintro e w6 ⟨rfl, hC2⟩
          replace hC2 := Lib.hid hC2
          go_wp2_with fail
          go_ret
          exact ⟨rfl, (hC1.out.trans hC2.out).below⟩
        · have h64b : decide ((64 : Int) < z.size) = false := by simp; omega
          go_wp2_with fail
          refine (hp1.out _).mono ?_
          rintro e w5 h5
          obtain ⟨hC1, A0, n0, c0, xs, rfl, rfl, hS0, hX, -⟩ := parse_ok h5 (hfine.out false (by omega))
          obtain ⟨b, o, rfl, hc⟩ := cmds_at hS0 hX (by simp)
          obtain ⟨A1, cc1, ys, -, r1, hS1, hX1⟩ := hc 0 _ rfl
          obtain ⟨b1', o1, rfl, hc1⟩ := words_at hS1 hX1 (by simp)
          obtain ⟨A2, cc2, r2, r3, r4, hp⟩ := hc1 1 _ rfl
          replace hC1 := Lib.hid (((hD.out.alloc _).trans hC1))
          clear h5 hS0 hX hc hS1 hX1 hc1
          by_cases h0 : S = []
          · subst h0
            obtain rfl : z = ⟨#[]⟩ := hzS.out
            simp only [nameW, if_true] at r4 hp
            obtain ⟨b2, o2, rfl, hc2⟩ := parts_at hp (by simp)
            obtain ⟨r5, r6⟩ := hc2 0 _ rfl
            clear hp hc2 h64 h64b hzS hzz hz hlong hfine hp1 hp2 hD hB1 hB2 hS hSl hSn
            have hEq : (⟨#[97, 36]⟩ : ByteArray) ++ bstr [E] = bstr [97, 36, E] := by refine bstr_of ?_; rw [app_list]; rfl
            simp only [List.length_cons, List.length_nil, Nat.zero_mul, Nat.one_mul, Nat.zero_add, Nat.add_zero] at r1 r2 r3 r4 ⊢
            go_wp2_with fail
            refine (alive_any _).mono ?_
            rintro e w6 ⟨rfl, hC2⟩
            replace r5 := hC2.cell r5 (by simp)
            replace r6 := hC2.cell r6 (by simp)
            replace hC2 := Lib.hid (hC1.out.trans hC2)
            simp only [Nat.zero_mul, Nat.one_mul, Nat.add_zero, Nat.zero_add, Nat.reduceMul, Nat.reduceAdd] at r5 r6
            go_wp2_with fail
            all_goals
              first
            | (go_ret; exact ⟨rfl, hC2.out.below⟩)
            | (go_ret; exact ⟨rfl, (hC2.out.alloc _).below⟩)
            | (go_ret; exact ⟨rfl, ((hC2.out.alloc _).alloc _).below⟩)
            | (go_ret; exact ⟨rfl, (((hC2.out.alloc _).alloc _).alloc _).below⟩)
          · have e1 : ¬ z.toList = [] := by
              rw [ByteArray.toList_eq, hzS.out]; simpa [bstr] using h0
            have e0 : z.toList.isEmpty = false := by
              rw [ByteArray.toList_eq, hzS.out]; simpa [bstr] using h0
            have e2 : (z.toList == []) = false := by
              rw [ByteArray.toList_eq, hzS.out]; simpa [bstr] using h0
            simp only [nameW, h0, if_false] at r4 hp
            obtain ⟨b2, o2, rfl, hc2⟩ := parts_at hp (by simp)
            obtain ⟨r5, r6⟩ := hc2 0 _ rfl
            obtain ⟨r7, r8⟩ := hc2 1 _ rfl
            obtain ⟨r9, r10⟩ := hc2 2 _ rfl
            rw [← hzS.out] at r8
            rw [show bstr [97] = (⟨#[97]⟩ : ByteArray) from rfl] at r6
            clear hp hc2 h64 hzS hzz hz hlong hfine hp1 hp2 hD hB1 hB2 hS hSl hSn
            simp only [List.length_cons, List.length_nil, Nat.zero_mul, Nat.one_mul, Nat.zero_add, Nat.add_zero] at r1 r2 r3 r4 ⊢
            go_wp2_with fail
            refine (alive_any _).mono ?_
            rintro e w6 ⟨rfl, hC2⟩
            replace r5 := hC2.cell r5 (by simp)
            replace r6 := hC2.cell r6 (by simp)
            replace r7 := hC2.cell r7 (by simp)
            replace r8 := hC2.cell r8 (by simp)
            replace r9 := hC2.cell r9 (by simp)
            replace r10 := hC2.cell r10 (by simp)
            replace hC2 := Lib.hid (hC1.out.trans hC2)
            simp only [Nat.zero_mul, Nat.one_mul, Nat.add_zero, Nat.zero_add, Nat.reduceMul, Nat.reduceAdd] at r5 r6 r7 r8 r9 r10
            go_wp2_with fail
            all_goals
              first
            | (go_ret; exact ⟨rfl, hC2.out.below⟩)
            | (go_ret; exact ⟨rfl, (hC2.out.alloc _).below⟩)
            | (go_ret; exact ⟨rfl, ((hC2.out.alloc _).alloc _).below⟩)
            | (go_ret; exact ⟨rfl, (((hC2.out.alloc _).alloc _).alloc _).below⟩)
      · by_cases h64 : 64 < S.length
        · have h64b : decide ((64 : Int) < z.size) = true := by simp; omega
          go_wp2_with fail
          refine (hp2.out _).mono ?_
          rintro e w5 h5
          obtain ⟨hC1, rfl⟩ := parse_bad h5 (hlong.out true h64)
          replace hC1 := Lib.hid (((hD.out.alloc _).trans hC1))
          clear h5
          simp only [if_true, if_false, Bool.false_eq_true] at *
          go_wp2_with fail
          refine (alive_any _).mono ?_
          rintro e w6 ⟨rfl, hC2⟩
          replace hC2 := Lib.hid hC2
          go_wp2_with fail
          go_ret
          exact ⟨rfl, (hC1.out.trans hC2.out).below⟩
        · have h64b : decide ((64 : Int) < z.size) = false := by simp; omega
          go_wp2_with fail
          refine (hp2.out _).mono ?_
          rintro e w5 h5
          obtain ⟨hC1, A0, n0, c0, xs, rfl, rfl, hS0, hX, -⟩ := parse_ok h5 (hfine.out true (by omega))
          obtain ⟨b, o, rfl, hc⟩ := cmds_at hS0 hX (by simp)
          obtain ⟨A1, cc1, ys, -, r1, hS1, hX1⟩ := hc 0 _ rfl
          obtain ⟨b1', o1, rfl, hc1⟩ := words_at hS1 hX1 (by simp)
          obtain ⟨A2, cc2, r2, r3, r4, hp⟩ := hc1 1 _ rfl
          replace hC1 := Lib.hid (((hD.out.alloc _).trans hC1))
          clear h5 hS0 hX hc hS1 hX1 hc1
          by_cases h0 : S = []
          · subst h0
            obtain rfl : z = ⟨#[]⟩ := hzS.out
            simp only [nameW, if_true] at r4 hp
            obtain ⟨b2, o2, rfl, hc2⟩ := parts_at hp (by simp)
            obtain ⟨r5, r6⟩ := hc2 0 _ rfl
            clear hp hc2 h64 h64b hzS hzz hz hlong hfine hp1 hp2 hD hB1 hB2 hS hSl hSn
            have hEq : (⟨#[97, 36]⟩ : ByteArray) ++ bstr [E] = bstr [97, 36, E] := by refine bstr_of ?_; rw [app_list]; rfl
            simp only [List.length_cons, List.length_nil, Nat.zero_mul, Nat.one_mul, Nat.zero_add, Nat.add_zero] at r1 r2 r3 r4 ⊢
            go_wp2_with fail
            refine (alive_any _).mono ?_
            rintro e w6 ⟨rfl, hC2⟩
            replace r5 := hC2.cell r5 (by simp)
            replace r6 := hC2.cell r6 (by simp)
            replace hC2 := Lib.hid (hC1.out.trans hC2)
            simp only [Nat.zero_mul, Nat.one_mul, Nat.add_zero, Nat.zero_add, Nat.reduceMul, Nat.reduceAdd] at r5 r6
            go_wp2_with fail
            all_goals
              first
            | (go_ret; exact ⟨rfl, hC2.out.below⟩)
            | (go_ret; exact ⟨rfl, (hC2.out.alloc _).below⟩)
            | (go_ret; exact ⟨rfl, ((hC2.out.alloc _).alloc _).below⟩)
            | (go_ret; exact ⟨rfl, (((hC2.out.alloc _).alloc _).alloc _).below⟩)
          · have e1 : ¬ z.toList = [] := by
              rw [ByteArray.toList_eq, hzS.out]; simpa [bstr] using h0
            have e0 : z.toList.isEmpty = false := by
              rw [ByteArray.toList_eq, hzS.out]; simpa [bstr] using h0
            have e2 : (z.toList == []) = false := by
              rw [ByteArray.toList_eq, hzS.out]; simpa [bstr] using h0
            simp only [nameW, h0, if_false] at r4 hp
            obtain ⟨b2, o2, rfl, hc2⟩ := parts_at hp (by simp)
            obtain ⟨r5, r6⟩ := hc2 0 _ rfl
            obtain ⟨r7, r8⟩ := hc2 1 _ rfl
            obtain ⟨r9, r10⟩ := hc2 2 _ rfl
            rw [← hzS.out] at r8
            rw [show bstr [97] = (⟨#[97]⟩ : ByteArray) from rfl] at r6
            clear hp hc2 h64 hzS hzz hz hlong hfine hp1 hp2 hD hB1 hB2 hS hSl hSn
            simp only [List.length_cons, List.length_nil, Nat.zero_mul, Nat.one_mul, Nat.zero_add, Nat.add_zero] at r1 r2 r3 r4 ⊢
            go_wp2_with fail
            refine (alive_any _).mono ?_
            rintro e w6 ⟨rfl, hC2⟩
            replace r5 := hC2.cell r5 (by simp)
            replace r6 := hC2.cell r6 (by simp)
            replace r7 := hC2.cell r7 (by simp)
            replace r8 := hC2.cell r8 (by simp)
            replace r9 := hC2.cell r9 (by simp)
            replace r10 := hC2.cell r10 (by simp)
            replace hC2 := Lib.hid (hC1.out.trans hC2)
            simp only [Nat.zero_mul, Nat.one_mul, Nat.add_zero, Nat.zero_add, Nat.reduceMul, Nat.reduceAdd] at r5 r6 r7 r8 r9 r10
            go_wp2_with fail
            all_goals
              first
            | (go_ret; exact ⟨rfl, hC2.out.below⟩)
            | (go_ret; exact ⟨rfl, (hC2.out.alloc _).below⟩)
            | (go_ret; exact ⟨rfl, ((hC2.out.alloc _).alloc _).below⟩)
            | (go_ret; exact ⟨rfl, (((hC2.out.alloc _).alloc _).alloc _).below⟩)
theorem tclNames_row (v0 : Value) (d0 : Dt) (v1 : Value) (d1 : Dt) (v2 : Value) (d2 : Dt) (w : World) (h0 : Reads w (.sl [.int .u8]) v0 d0) (h1 : Reads w (.int .u8) v1 d1) (h2 : Reads w .bool v2 d2) :
    Calls Try.prog 6 #[v0, v1, v2] w fun e w' => e = .returned (.bool true) ∧ Below w.heap.size w w' := by
  obtain ⟨A, c, bs, rfl, hS, hl, hc⟩ := u8s_of_reads h0
  obtain ⟨c2, rfl⟩ := u8_of_reads h1
  cases h2
  exact tclNames_walk A bs c c2 _ w hS hl (by unfold maxLen at hc; omega)
end Go.Proofs.Yteodhnblbehenaa
