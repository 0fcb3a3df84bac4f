/- The law TclJoins, walked. No condition. -/
import Derived.Test.YteodhnblbehenaaTclKd
import Derived.Test.YteodhnblbehenaaTclIn
import Derived.Test.YteodhnblbehenaaTclU8
import Derived.Deep.LoopGhost
import Derived.Deep.CutBlock
import Derived.IntWalk
import Derived.Deep.DeepCutAuto
set_option linter.unusedVariables false
set_option linter.unusedSimpArgs false
namespace Go.Proofs.Yteodhnblbehenaa
open Go.RowKit Tcl PTclParses YteodhnblbehenaaW.PrintWords
theorem parse_go {s : List UInt8} (hs : s.length ≤ 16777216) : parse s = parseGo s 0 [] := by unfold parse; rw [if_neg (by omega)]
/-- Whatever is told. -/
theorem parse_some {w : World} {s : List UInt8} {e : Ending} {w' : World} (h : PaRes w s e w') : Chg [] w w' ∧ ∃ A n c, ∃ p q : Int, e = .returned (.tuple #[.slice A n c, .int .i64 p, .int .i64 q]) := by
  obtain ⟨hC, h | h⟩ := h
  · obtain ⟨A, n, c, xs, cs', rfl, -⟩ := h
    exact ⟨hC, A, n, c, 0, 0, rfl⟩
  · obtain ⟨p, q, rfl, -⟩ := h
    exact ⟨hC, none, 0, 0, p, q, rfl⟩
theorem parse_err_ne {w : World} {s : List UInt8} {e : Ending} {w' : World} {p q : Nat} (h : PaRes w s e w') (hp : parse s = .error (p, q)) : q ≠ 0 := by
  obtain ⟨hC, h | h⟩ := h
  · obtain ⟨A, n, c, xs, cs', rfl, h1, -⟩ := h
    rw [hp] at h1; cases h1
  · obtain ⟨p, q, rfl, h1, h2⟩ := h
    rw [hp] at h1; cases h1
    exact h2
set_option maxRecDepth 100000 in
set_option maxHeartbeats 16000000 in
theorem tclJoins_walk (s t : ByteArray) (hs : s.size ≤ maxLen) (ht : t.size ≤ maxLen) (w : World) :
    Calls Try.prog 4 #[.string s, .string t] w fun e w' => e = .returned (.bool true) ∧ Below w.heap.size w w' := by
  unfold maxLen at hs ht
  go_enter Try.func4, Try.ntmps4
  go_upto_region 1 with fail
  go_cut [0, 1] (fun v0 v1 wx => ∃ S T : List UInt8, S.length ≤ 2000 ∧ T.length ≤ 2000 ∧ v0 = .string (bstr S) ∧ v1 = .string (bstr T) ∧ Chg [] w wx)
  case first =>
    by_cases hs2 : s.size ≤ 2000
    all_goals by_cases ht2 : t.size ≤ 2000
    all_goals
      go_wp2_with fail
      go_quiet (fail)
      go_wp2_with fail
      go_meet
      first
      | exact ⟨_, _, by show List.length (Array.toList _) ≤ _; rw [Array.length_toList]; show ByteArray.size _ ≤ _; first | exact hs2 | (rw [ByteArray.size_extract]; omega), by show List.length (Array.toList _) ≤ _; rw [Array.length_toList]; show ByteArray.size _ ≤ _; first | exact ht2 | (rw [ByteArray.size_extract]; omega), congrArg _ (bstr_of rfl), congrArg _ (bstr_of rfl), (Chg.refl [] w).drewN _⟩
  case rest =>
  obtain ⟨S, T, hS, hT, rfl, rfl, hC⟩ := hcut
  replace hC := Lib.hid hC
  have p1 := Lib.hid (fun W => parse_any W S (by omega))
  have p2 := Lib.hid (fun W => parse_any W T (by omega))
  have p3 := Lib.hid (fun W => parse_any W (S ++ 10 :: T) (by simp; omega))
  have g1 : (bstr S).size ≤ 2000 := hS
  have g2 : (bstr T).size ≤ 2000 := hT
  have hB : bstr S ++ (⟨#[10]⟩ : ByteArray) ++ bstr T = bstr (S ++ 10 :: T) := by
    refine bstr_of ?_; rw [app_list, app_list]; simp [bstr]
  obtain ⟨B, hBe⟩ : ∃ B, bstr (S ++ 10 :: T) = B := ⟨_, rfl⟩
  rw [hBe] at hB
  have p3 := Lib.hid (fun W => hBe ▸ p3.out W)
  clear hBe
  cases hs : parse S with
  | error b =>
    obtain ⟨p, q⟩ := b
    replace hs := Lib.hid hs
    go_wp2_with fail
    refine (p1.out _).mono ?_
    rintro e w1 h1
    obtain ⟨hC1, rfl⟩ := parse_bad h1 hs.out
    have hq := parse_err_ne h1 hs.out
    have hq' : ((q : Int) != 0) = true := by simp; omega
    replace hC := Lib.hid (hC.out.trans hC1)
    clear h1 hC1
    go_wp2_with fail
    refine (p2.out _).mono ?_
    rintro e w2 h1
    obtain ⟨hC1, A0, n0, c0, x0, y0, rfl⟩ := parse_some h1
    replace hC := Lib.hid (hC.out.trans hC1)
    clear h1 hC1
    go_wp2_with fail
    refine (alive_any _).mono ?_
    rintro e w3 ⟨rfl, hC1⟩
    replace hC := Lib.hid (hC.out.trans hC1)
    clear hC1
    go_wp2_with fail
    go_ret
    exact ⟨rfl, hC.out.below⟩
  | ok a =>
    replace hs := Lib.hid hs
    cases ht : parse T with
    | error b =>
      obtain ⟨p, q⟩ := b
      replace ht := Lib.hid ht
      go_wp2_with fail
      refine (p1.out _).mono ?_
      rintro e w1 h1
      obtain ⟨hC1, A1, n1, c1, xs1, rfl, -⟩ := parse_ok h1 hs.out
      replace hC := Lib.hid (hC.out.trans hC1)
      clear h1 hC1
      go_wp2_with fail
      refine (p2.out _).mono ?_
      rintro e w2 h1
      obtain ⟨hC1, rfl⟩ := parse_bad h1 ht.out
      have hq := parse_err_ne h1 ht.out
      have hq' : ((q : Int) != 0) = true := by simp; omega
      replace hC := Lib.hid (hC.out.trans hC1)
      clear h1 hC1
      go_wp2_with fail
      refine (alive_any _).mono ?_
      rintro e w3 ⟨rfl, hC1⟩
      replace hC := Lib.hid (hC.out.trans hC1)
      clear hC1
      go_wp2_with fail
      go_ret
      exact ⟨rfl, hC.out.below⟩
    | ok b =>
      have hc : parse (S ++ 10 :: T) = .ok (a ++ b.map (shC (S.length + 1))) := by
        rw [parse_go (by simp; omega)]
        exact joins (by rw [← parse_go (by omega)]; exact hs.out) (by rw [← parse_go (by omega)]; exact ht)
      replace ht := Lib.hid ht
      replace hc := Lib.hid hc
      go_wp2_with fail
      refine (p1.out _).mono ?_
      rintro e w1 h1
      obtain ⟨hC1, A1, n1, c1, xs1, rfl, hn1, hS1, hX1, -⟩ := parse_ok h1 hs.out
      have K1 := kcmds hS1 hX1 hn1
      have m1 := sl_max hS1
      subst hn1
      replace hC := Lib.hid (hC.out.trans hC1)
      replace K1 := Lib.hid K1
      clear h1 hC1 hS1 hX1
      go_wp2_with fail
      refine (p2.out _).mono ?_
      rintro e w2 h1
      obtain ⟨hC1, A2, n2, c2, xs2, rfl, hn2, hS2, hX2, -⟩ := parse_ok h1 ht.out
      have K2 := Lib.hid (kcmds hS2 hX2 hn2)
      have m2 := sl_max hS2
      subst hn2
      replace K1 := Lib.hid (Kd.C_below K1.out hC1.below)
      replace hC := Lib.hid (hC.out.trans hC1)
      clear h1 hC1 hS2 hX2
      go_wp2_with fail
      refine (p3.out _).mono ?_
      rintro e w3 h1
      obtain ⟨hC1, A3, n3, c3, xs3, rfl, hn3, hS3, hX3, -⟩ := parse_ok h1 hc.out
      have hn3' : n3 = a.length + b.length := by rw [hn3]; simp
      have K3 := Lib.hid (kcmds hS3 hX3 hn3)
      have m3 := sl_max hS3
      clear hn3
      subst hn3'
      replace K1 := Lib.hid (Kd.C_below K1.out hC1.below)
      replace K2 := Lib.hid (Kd.C_below K2.out hC1.below)
      replace hC := Lib.hid (hC.out.trans hC1)
      clear h1 hC1 hX3
      unfold maxLen at m1 m2 m3
      go_wp2_with fail
      have K3a := kd_take K3.out a.length (by omega)
      rw [List.map_append, List.take_left' (by simp)] at K3a
      obtain ⟨A4, c4, hr4, hc4, hc4', hA4⟩ := slice_from_kd (P := Try.prog) 22 33 Try.underlying22 Try.info_command m3.1 (a.length : Int) (by omega) b.length (by omega)
      have K3b := kd_drop (A' := A4) K3.out a.length b.length (by omega) hA4
      rw [List.map_append, List.drop_left' (by simp)] at K3b
      clear K3 hA4
      replace K3b := Lib.hid K3b
      ((with_reducible refine (same_any _ _ _ _ _ _ _ _ _ (by simp) (by simp) K3a K1.out (by omega) (by omega)).mono ?_); skip)
      rintro e w4 ⟨rfl, hC1⟩
      replace K3a := Lib.hid (Kd.C_below K3a hC1.below)
      replace K3b := Lib.hid (Kd.C_below K3b.out hC1.below)
      replace K1 := Lib.hid (Kd.C_below K1.out hC1.below)
      replace K2 := Lib.hid (Kd.C_below K2.out hC1.below)
      replace hC := Lib.hid (hC.out.trans hC1)
      clear hC1
      simp only [decide_true]
      go_wp2_with fail
      ((with_reducible refine (places_any _ _ _ _ _ _ _ _ _ (by simp) (by simp) K3a.out K1.out (by omega) (by omega)).mono ?_); skip)
      rintro e w5 ⟨rfl, hC1⟩
      replace K3b := Lib.hid (Kd.C_below K3b.out hC1.below)
      replace K2 := Lib.hid (Kd.C_below K2.out hC1.below)
      replace hC := Lib.hid (hC.out.trans hC1)
      clear hC1 K1 K3a
      simp only [decide_true]
      go_wp2_with fail
      ((with_reducible refine (same_any _ _ _ _ _ _ _ _ _ (by simp) (by simp) K3b.out K2.out (by omega) (by omega)).mono ?_); skip)
      rintro e w6 ⟨rfl, hC1⟩
      replace K3b := Lib.hid (Kd.C_below K3b.out hC1.below)
      replace K2 := Lib.hid (Kd.C_below K2.out hC1.below)
      replace hC := Lib.hid (hC.out.trans hC1)
      clear hC1
      have hck : decide (List.map ckey (List.map kcmd (List.map (shC (S.length + 1)) b)) = List.map ckey (List.map kcmd b)) = true := by
        apply decide_eq_true
        simp only [List.map_map]
        refine List.map_congr_left fun c _ => ?_
        simp only [Function.comp, ckey, kcmd, shC, List.map_map]
        refine List.map_congr_left fun wd _ => ?_
        simp [wkey, kword, shW]
      rw [hck]
      clear hck
      have hat := Lib.hid (parse_places T T.length 0 [] b (by omega) (by simp) (by rw [← parse_go (by omega)]; exact ht.out))
      go_wp2_with fail
      go_loopw [98] (fun v98 wr => ∃ j : Nat, v98 = .int .i64 j ∧ j ≤ b.length ∧ Hid (Chg [] w6 wr)) (fun v98 _ => b.length - (intOf v98).toNat)
      case atStart => exact ⟨0, rfl, by omega, Lib.hid (Chg.refl _ _)⟩
      case round =>
        obtain ⟨j, rfl, hj, hD⟩ := hrel
        by_cases hlt : j < b.length
        · obtain ⟨ad, A5, c5, rfl, q1, q2, -⟩ := at_T33 (Kd.C_below K3b.out hD.out.below) (j : Int) (by omega) (by omega)
          obtain ⟨ad2, A6, c6, rfl, q3, q4, -⟩ := at_T33 (Kd.C_below K2.out hD.out.below) (j : Int) (by omega) (by omega)
          have e1 : (rd_T33 (List.map kcmd (List.map (shC (S.length + 1)) b)) (j : Int)).f0 = ((S.length + 1 + b[j].at_ : Nat) : Int) := by
            rw [show ((j : Nat) : Int) = (j : Int) from rfl, rd33 (by simpa using hlt)]; simp [kcmd, shC]
          have e2 : (rd_T33 (List.map kcmd b) (j : Int)).f0 = ((b[j].at_ : Nat) : Int) := by
            rw [rd33 (by simpa using hlt)]; simp [kcmd]
          have hb := hat.out b[j] (List.getElem_mem hlt)
          rw [e1] at q1
          rw [e2] at q3
          clear e1 e2
          generalize b[j].at_ = x at q1 q3 hb
          simp only [Int.toNat_natCast] at q1 q2 q3 q4
          have q5 := fun ob => ((Chg.refl [] wr).alloc ob).cell q3 (by simp)
          have q6 := fun ob => ((Chg.refl [] wr).alloc ob).cell q4 (by simp)
          have hw1 : IntKind.i64.wrap ((x : Int) + (S.length : Int)) = x + S.length := IntWalk.i64_in _ (by omega)
          have hw2 : IntKind.i64.wrap ((x : Int) + (S.length : Int) + 1) = x + S.length + 1 := IntWalk.i64_in _ (by omega)
          have hne : (((S.length : Int) + 1 + (x : Int)) != ((x : Int) + (S.length : Int) + 1)) = false := by
            rw [bne_eq_false_iff_eq]; omega
          replace hD := Lib.hid (hD.out)
          clear q3 q4 hb
          go_wp2_with fail
          go_quiet (fail)
          go_wp2_with fail
          go_roundw
          case rel => exact ⟨j + 1, by go_num, by omega, Lib.hid ((hD.out.alloc _).drewN _)⟩
          case measure => simp [intOf]; omega
        · obtain rfl : j = b.length := by omega
          replace hC := Lib.hid (hC.out.trans hD.out)
          clear hD
          go_wp2_with fail
          refine (alive_any _).mono ?_
          rintro e w7 ⟨rfl, hC1⟩
          replace hC := Lib.hid (hC.out.trans hC1)
          clear hC1
          go_wp2_with fail
          go_ret
          exact ⟨rfl, hC.out.below⟩
theorem tclJoins_row (v0 : Value) (d0 : Dt) (v1 : Value) (d1 : Dt) (w : World) (h0 : Reads w .str v0 d0) (h1 : Reads w .str v1 d1) :
    Calls Try.prog 4 #[v0, v1] w fun e w' => e = .returned (.bool true) ∧ Below w.heap.size w w' := by
  cases h0 with
  | str a0 =>
    cases h1 with
    | str a1 => exact tclJoins_walk _ _ a0 a1 w
end Go.Proofs.Yteodhnblbehenaa
