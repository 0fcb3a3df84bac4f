/- The law PlanWrong, walked. No condition. -/
import Derived.Test.YtakcolililbkjaaPlAlive
import Derived.Test.YtakcolililbkjaaPlWrongK
import Derived.Test.YtakcolililbkjaaPlMassK
import Derived.Test.YtakcolililbkjaaPlLineK
import Derived.Test.YtakcolililbkjaaPlNone2K
import Derived.Test.YtakcolililbkjaaTclU8
import Derived.Deep.LoopGhost
import Derived.Deep.CutBlock
import Derived.IntWalk
import Derived.Deep.DeepCutAuto
set_option linter.unusedVariables false
set_option linter.unusedSimpArgs false
namespace Go.Proofs.Ytakcolililbkjaa
namespace Pl
open Go.RowKit Tcl Plan
theorem ba_pre {s p : ByteArray} (hl : p.size ≤ s.size) (h : ∀ r, s.data.toList ≠ p.data.toList ++ r) : s.extract 0 p.size ≠ p := by
  intro e
  refine h (s.data.toList.drop p.size) ?_
  have h1 : (s.extract 0 p.size).data.toList = s.data.toList.take p.size := by
    rw [ByteArray.data_extract, Array.toList_extract]
    simp [List.extract_eq_take_drop]
  rw [e] at h1
  rw [h1, List.take_append_drop]
set_option maxRecDepth 100000 in
set_option maxHeartbeats 4000000 in
theorem lhp_any (s p : ByteArray) (hs : s.size ≤ 100000) (hp : p.size ≤ 1000) (h : ∀ r, s.data.toList ≠ p.data.toList ++ r) (w : World) : Calls Try.prog 19 #[.string s, .string p] w fun e w' => e = .returned (.bool false) ∧ w = w' := by
  by_cases hl : p.size ≤ s.size
  · have hne := ba_pre hl h
    have hn : ((s.extract 0 p.size).toList == p.toList) = false := by rw [ByteArray.toList_eq, ByteArray.toList_eq, beq_eq_false_iff_ne]; exact fun e => hne (ByteArray.ext (Array.ext' e))
    clear hne
    have hd : decide ((s.size : Int) ≥ (p.size : Int)) = true := by simp; omega
    clear h
    go_enter Try.func19, Try.ntmps19
    go_wp2_with fail
    go_ret
    exact ⟨by first | rfl | simp, rfl⟩
  · have hd : decide ((s.size : Int) ≥ (p.size : Int)) = false := by simp; omega
    clear h
    go_enter Try.func19, Try.ntmps19
    go_wp2_with fail
    go_ret
    exact ⟨rfl, rfl⟩
set_option maxRecDepth 100000 in
set_option maxHeartbeats 4000000 in
theorem hp_any (s p : ByteArray) (hs : s.size ≤ 100000) (hp : p.size ≤ 1000) (h : ∀ r, s.data.toList ≠ p.data.toList ++ r) (w : World) : Calls Try.prog 13 #[.string s, .string p] w fun e w' => e = .returned (.bool false) ∧ w = w' := by
  have h1 := Lib.hid (lhp_any s p hs hp h w)
  clear h hs hp
  go_enter Try.func13, Try.ntmps13
  go_wp2_with fail
  refine h1.out.mono ?_
  rintro e w1 ⟨rfl, rfl⟩
  go_wp2_with fail
  go_ret
  exact ⟨rfl, rfl⟩
theorem cnt_len : ∀ l : List Plan.Op, l.length ≤ cntOs l
  | [] => Nat.zero_le _
  | .mk _ _ _ xs :: r => by
    rw [cntOs, cntO, List.length_cons]
    have := cnt_len r
    omega
theorem wrap_le {n : Nat} (h : n ≤ 1000000) : IntKind.i64.wrap (n : Int) = n := by rw [IntKind.wrap_i64]; omega
def nms : List ByteArray := formL.map (fun e => bstr e.1)
set_option maxRecDepth 100000 in
set_option maxHeartbeats 16000000 in
theorem planWrong_walk (s : ByteArray) (hs : s.size ≤ maxLen) (w : World) :
    Calls Try.prog 5 #[.string s] w fun e w' => e = .returned (.bool true) ∧ Below w.heap.size w w' := by
  unfold maxLen at hs
  go_enter Try.func5, Try.ntmps5
  go_upto_region 1 with fail
  go_cut [0] (fun v0 wx => ∃ S : List UInt8, S.length ≤ 3000 ∧ v0 = .string (bstr S) ∧ Chg [] w wx)
  case first =>
    by_cases hs2 : s.size ≤ 3000
    all_goals
      go_wp2_with fail
      go_meet
      exact ⟨_, by show List.length (Array.toList _) ≤ _; rw [Array.length_toList]; show ByteArray.size _ ≤ _; first | exact hs2 | (rw [ByteArray.size_extract]; omega), congrArg _ (bstr_of rfl), Chg.refl [] w⟩
  case rest =>
  obtain ⟨S, hS, rfl, hC⟩ := hcut
  replace hC := Lib.hid hC
  have p1 := Lib.hid (fun W => plan_any W S (by omega))
  have p2 := Lib.hid (fun W => plan_any W (S ++ [10]) (by simp; omega))
  have g1 : (bstr S).size = S.length := rfl
  have hB : bstr S ++ (⟨#[10]⟩ : ByteArray) = bstr (S ++ [10]) := by
    refine bstr_of ?_; rw [app_list]; simp [bstr]
  obtain ⟨Bu, hBe⟩ : ∃ B, bstr (S ++ [10]) = B := ⟨_, rfl⟩
  rw [hBe] at hB
  have p2 := Lib.hid (fun W => hBe ▸ p2.out W)
  clear hBe
  cases hs : planOf S with
  | ok a =>
    have hm := plan_mass hs
    have hcl := cnt_len a
    have hwr := wrap_le (n := cntOs a) (by omega)
    replace hs := Lib.hid hs
    go_wp2_with fail
    refine (p1.out _).mono ?_
    rintro e w1 h1
    obtain ⟨hC1, A1, c1, rfl, hO1⟩ := pl_ok h1 hs.out
    replace hC := Lib.hid (hC.out.trans hC1)
    clear h1 hC1
    obtain ⟨na, hna⟩ : ∃ n, List.length a = n := ⟨_, rfl⟩
    obtain ⟨nc, hnc⟩ : ∃ n, cntOs a = n := ⟨_, rfl⟩
    rw [hnc, hna] at hcl
    rw [hnc] at hwr hm
    go_wp2_with fail
    refine (alive_any _).mono ?_
    rintro e w2 ⟨rfl, hC1⟩
    have hcn := Lib.hid (count_any w2 _ A1 _ c1 a rfl (OpsV.chg hO1 hC1 (fun _ _ _ => by simp)))
    rw [hnc, hwr, hna] at hcn
    replace hC := Lib.hid (hC.out.trans hC1)
    clear hC1 hO1 hwr hna hnc
    have hd : decide ((nc : Int) ≥ (na : Int)) = true := by simp; omega
    go_wp2_with fail
    refine hcn.out.mono ?_
    rintro e w3 ⟨rfl, hC1⟩
    replace hC := Lib.hid (hC.out.trans hC1)
    clear hC1
    go_wp2_with fail
    go_ret
    exact ⟨rfl, hC.out.below⟩
  | error b =>
    obtain ⟨p, q⟩ := b
    have hp := plan_err hs
    have hl := fun h5 => (plan_line (s := S) (by omega)).2 p q hs h5
    have hno := fun h8 : q = 8 => plan_none (s := S) (p := p) (h8 ▸ hs)
    replace hs := Lib.hid hs
    replace hl := Lib.hid hl
    replace hno := Lib.hid hno
    go_wp2_with fail
    refine (p1.out _).mono ?_
    rintro e w1 h1
    obtain ⟨hC1, hq, rfl⟩ := pl_bad h1 hs.out
    have hq' : ((q : Int) == 0) = false := by simp; omega
    replace hC := Lib.hid (hC.out.trans hC1)
    clear h1 hC1
    have hp1 : decide ((p : Int) < 0) = false := decide_eq_false (by omega)
    have hp2 : decide ((p : Int) > (S.length : Int)) = false := decide_eq_false (by omega)
    go_upto_region 8 with fail
    refine (p2.out _).mono ?_
    rintro e w2 h2
    obtain ⟨hC2, A2, n2, c2, p2', q2', rfl, hsame⟩ : Chg [] w1 w2 ∧ ∃ A n c, ∃ p' q' : Int, e = .returned (.tuple #[.slice A n c, .int .i64 p', .int .i64 q']) ∧ (q ≠ 5 → n = 0 ∧ p' = p ∧ q' = q) := by
      by_cases h5 : q = 5
      · obtain ⟨hC2, ⟨l, A, c, -, rfl, -⟩ | ⟨p', q', -, -, rfl⟩⟩ := h2
        · exact ⟨hC2, A, _, c, 0, 0, rfl, fun h => absurd h5 h⟩
        · exact ⟨hC2, none, 0, 0, p', q', rfl, fun h => absurd h5 h⟩
      · obtain ⟨hC2, -, rfl⟩ := pl_bad h2 (hl.out h5)
        exact ⟨hC2, none, 0, 0, p, q, rfl, fun _ => ⟨rfl, rfl, rfl⟩⟩
    replace hC := Lib.hid (hC.out.trans hC2)
    replace hsame := Lib.hid hsame
    clear h2 hC2 p1 p2 hl hs
    go_upto_region 8 with fail
    go_cut [72] (fun v72 wx => v72 = .bool false ∧ w2 = wx)
    case first =>
      by_cases h5 : q = 5
      · subst h5
        clear hsame
        go_wp2_with fail
        go_meet
        exact ⟨rfl, rfl⟩
      · obtain ⟨rfl, rfl, rfl⟩ := hsame.out h5
        have h5' : ((q : Int) != 5) = true := by simp; omega
        clear hsame
        go_wp2_with fail
        go_meet
        exact ⟨by first | rfl | simp, rfl⟩
    case rest =>
    obtain ⟨rfl, rfl⟩ := hcut
    clear hsame
    go_upto_block 0 with (fail)
    go_wp2
    obtain ⟨kb, hkb⟩ : ∃ k, w2.heap.size = k := ⟨_, rfl⟩
    have hb := blk_new w2 (.cells #[.string ⟨#[115, 101, 116]⟩, .string ⟨#[115, 112, 97, 119, 110]⟩, .string ⟨#[115, 101, 110, 100]⟩, .string ⟨#[101, 120, 112, 101, 99, 116]⟩, .string ⟨#[109, 97, 116, 99, 104, 95, 109, 97, 120]⟩, .string ⟨#[115, 108, 101, 101, 112]⟩, .string ⟨#[99, 108, 111, 115, 101]⟩, .string ⟨#[101, 120, 105, 116]⟩, .string ⟨#[101, 120, 112, 95, 99, 111, 110, 116, 105, 110, 117, 101]⟩] 9)
    have hC3 := Lib.hid (hC.out.alloc (.cells #[.string ⟨#[115, 101, 116]⟩, .string ⟨#[115, 112, 97, 119, 110]⟩, .string ⟨#[115, 101, 110, 100]⟩, .string ⟨#[101, 120, 112, 101, 99, 116]⟩, .string ⟨#[109, 97, 116, 99, 104, 95, 109, 97, 120]⟩, .string ⟨#[115, 108, 101, 101, 112]⟩, .string ⟨#[99, 108, 111, 115, 101]⟩, .string ⟨#[101, 120, 105, 116]⟩, .string ⟨#[101, 120, 112, 95, 99, 111, 110, 116, 105, 110, 117, 101]⟩] 9))
    rw [hkb] at hb
    (try rw [hkb])
    generalize w2.alloc _ = w3 at hb hC3 ⊢
    have hnm : ∀ i, i < 9 → ∃ x : ByteArray, w3.cell? ⟨kb, i, none⟩ = some (.string x) ∧ x.size ≤ 12 ∧ (q = 8 → (S.drop p ≠ x.data.toList ∧ ∀ r, S.drop p ≠ x.data.toList ++ 32 :: r)) := by
      intro i hi
      rcases (show i = 0 ∨ i = 1 ∨ i = 2 ∨ i = 3 ∨ i = 4 ∨ i = 5 ∨ i = 6 ∨ i = 7 ∨ i = 8 by omega) with rfl | rfl | rfl | rfl | rfl | rfl | rfl | rfl | rfl
      · exact ⟨⟨#[115, 101, 116]⟩, by simp [World.cell?, hb], by decide, fun h8 => hno.out h8 ([115, 101, 116], 0, 2, 2) (by simp [formL])⟩
      · exact ⟨⟨#[115, 112, 97, 119, 110]⟩, by simp [World.cell?, hb], by decide, fun h8 => hno.out h8 ([115, 112, 97, 119, 110], 1, 1, 1073741824) (by simp [formL])⟩
      · exact ⟨⟨#[115, 101, 110, 100]⟩, by simp [World.cell?, hb], by decide, fun h8 => hno.out h8 ([115, 101, 110, 100], 2, 1, 1) (by simp [formL])⟩
      · exact ⟨⟨#[101, 120, 112, 101, 99, 116]⟩, by simp [World.cell?, hb], by decide, fun h8 => hno.out h8 ([101, 120, 112, 101, 99, 116], 3, 1, 1073741824) (by simp [formL])⟩
      · exact ⟨⟨#[109, 97, 116, 99, 104, 95, 109, 97, 120]⟩, by simp [World.cell?, hb], by decide, fun h8 => hno.out h8 ([109, 97, 116, 99, 104, 95, 109, 97, 120], 4, 1, 1) (by simp [formL])⟩
      · exact ⟨⟨#[115, 108, 101, 101, 112]⟩, by simp [World.cell?, hb], by decide, fun h8 => hno.out h8 ([115, 108, 101, 101, 112], 5, 1, 1) (by simp [formL])⟩
      · exact ⟨⟨#[99, 108, 111, 115, 101]⟩, by simp [World.cell?, hb], by decide, fun h8 => hno.out h8 ([99, 108, 111, 115, 101], 6, 0, 0) (by simp [formL])⟩
      · exact ⟨⟨#[101, 120, 105, 116]⟩, by simp [World.cell?, hb], by decide, fun h8 => hno.out h8 ([101, 120, 105, 116], 7, 0, 1) (by simp [formL])⟩
      · exact ⟨⟨#[101, 120, 112, 95, 99, 111, 110, 116, 105, 110, 117, 101]⟩, by simp [World.cell?, hb], by decide, fun h8 => hno.out h8 ([101, 120, 112, 95, 99, 111, 110, 116, 105, 110, 117, 101], 8, 0, 0) (by simp [formL])⟩
    replace hnm := Lib.hid hnm
    clear hb hno hkb hC
    go_loopg [75] 9 (fun gk v75 wr => ∃ i : Nat, v75 = .int .i64 i ∧ i ≤ 9 ∧ gk = 9 - i ∧ Hid (Chg [] w3 wr))
    case atStart => exact ⟨0, rfl, by omega, rfl, Lib.hid (Chg.refl _ _)⟩
    case round =>
      obtain ⟨i, rfl, hi, rfl, hCr⟩ := hrel
      by_cases hlt : i < 9
      · obtain ⟨x, hx, hxs, hxn⟩ := hnm.out i hlt
        replace hx := hCr.out.cell hx (by simp)
        by_cases h8 : q = 8
        · obtain ⟨n1, n2⟩ := hxn h8
          have hq8 : ((q : Int) == 8) = true := by rw [h8]; rfl
          obtain ⟨y, hy⟩ : ∃ y, (bstr S).extract p S.length = y := ⟨_, rfl⟩
          have hyl : y.data.toList = S.drop p := by
            rw [← hy, ByteArray.data_extract, Array.toList_extract]
            show (S.toArray.toList).extract p S.length = _
            simp only [List.extract_eq_take_drop]
            first | rfl | (rw [List.take_of_length_le (by rw [List.length_drop]; exact Nat.le_refl _)]) | (rw [List.take_of_length_le (Nat.le_refl _)])
          have hys : y.size ≤ 3000 := by
            have : y.data.toList.length = y.size := by rw [Array.length_toList]; rfl
            rw [hyl, List.length_drop] at this; omega
          have hpre := Lib.hid (fun W => hp_any y (x ++ (⟨#[32]⟩ : ByteArray)) (by omega) (by rw [ByteArray.size_append]; show x.size + 1 ≤ _; omega) (fun r => by rw [hyl, app_list]; simpa using n2 r) W)
          have hne : (y.toList == x.toList) = false := by rw [ByteArray.toList_eq, ByteArray.toList_eq, hyl, beq_eq_false_iff_ne]; exact n1
          clear n1 n2 hyl hxn h8
          go_wp2_with fail
          refine (hpre.out _).mono ?_
          rintro e w4 ⟨rfl, rfl⟩
          clear hpre
          go_wp2_with fail
          go_roundg (9 - (i + 1))
          case measure => omega
          case rel => exact ⟨i + 1, rfl, by omega, rfl, hCr⟩
        · have hq8 : ((q : Int) == 8) = false := by rw [beq_eq_false_iff_ne]; omega
          clear hxn
          go_wp2_with fail
          go_roundg (9 - (i + 1))
          case measure => omega
          case rel => exact ⟨i + 1, rfl, by omega, rfl, hCr⟩
      · obtain rfl : i = 9 := by omega
        have hC := Lib.hid (hC3.out.trans hCr.out)
        go_wp2_with fail
        refine (alive_any _).mono ?_
        rintro e wz ⟨rfl, hCz⟩
        have hCf := Lib.hid (hC.out.trans hCz)
        clear hCz
        go_wp2_with fail
        go_ret
        exact ⟨rfl, hCf.out.below⟩
theorem planWrong_row (v0 : Value) (d0 : Dt) (w : World) (h0 : Reads w .str v0 d0) : Calls Try.prog 5 #[v0] w fun e w' => e = .returned (.bool true) ∧ Below w.heap.size w w' := by
  cases h0 with
  | str hz => exact planWrong_walk _ hz w
end Pl
end Go.Proofs.Ytakcolililbkjaa
