/- The law GlobJoins, walked. No condition. -/
import Derived.Test.YtjocfajnabkhaaaLMore
set_option linter.unusedVariables false
set_option linter.unusedSimpArgs false
namespace Go.Proofs.Ytjocfajnabkhaaa
open Go.RowKit Glob
/-- Is one of the first cuts a cut into two that are like each? -/
def Cut (a b : List Th) (T : List UInt8) (k : Nat) : Bool := (List.range k).any fun j => Like a (T.take j) && Like b (T.drop j)
theorem Cut.succ (a b : List Th) (T : List UInt8) (k : Nat) : Cut a b T (k + 1) = (Cut a b T k || (Like a (T.take k) && Like b (T.drop k))) := by
  simp [Cut, List.range_succ]
theorem Cut.all (a b : List Th) (T : List UInt8) : Cut a b T (T.length + 1) = Like (a ++ b) T := by
  rw [Bool.eq_iff_iff, like_append, Cut, List.any_eq_true]
  constructor
  · rintro ⟨j, hj, h⟩
    rw [List.mem_range] at hj
    rw [Bool.and_eq_true] at h
    exact ⟨j, by omega, h⟩
  · rintro ⟨j, hj, h⟩
    exact ⟨j, by rw [List.mem_range]; omega, by rw [Bool.and_eq_true]; exact h⟩
set_option maxRecDepth 100000 in
set_option maxHeartbeats 40000000 in
theorem globJoins_walk (p q t : ByteArray) (w0 : p.size ≤ maxLen) (w1 : q.size ≤ maxLen) (w2 : t.size ≤ maxLen) (w : World) :
    Calls Try.prog 6 #[.string p, .string q, .string t] w fun e w' => e = .returned (.bool true) ∧ Below w.heap.size w w' := by
  have hP := size_list p
  have hQ := size_list q
  have hX : ¬ t.size ≤ 40 → (t.extract 0 40).size ≤ 40 := fun h => by rw [ByteArray.size_extract]; omega
  by_cases hp60 : p.size ≤ 60
  case neg =>
    clear hX hP hQ
    by_cases ht : t.size ≤ 40
    all_goals
      go_enter Try.func6, Try.ntmps6
      go_wp2_with fail
      refine (alive_any _).mono ?_
      rintro e w3 ⟨rfl, hC1⟩
      replace hC1 := Lib.hid hC1
      go_wp2_with fail
      refine (alive_any _).mono ?_
      rintro e w5 ⟨rfl, hC2⟩
      replace hC1 := Lib.hid (hC1.out.trans hC2)
      clear hC2
      go_wp2_with fail
      go_ret
      exact ⟨rfl, hC1.out.below⟩
  by_cases hq60 : q.size ≤ 60
  case neg =>
    clear hX hP hQ
    by_cases ht : t.size ≤ 40
    all_goals
      go_enter Try.func6, Try.ntmps6
      go_wp2_with fail
      refine (alive_any _).mono ?_
      rintro e w3 ⟨rfl, hC1⟩
      replace hC1 := Lib.hid hC1
      go_wp2_with fail
      refine (alive_any _).mono ?_
      rintro e w5 ⟨rfl, hC2⟩
      replace hC1 := Lib.hid (hC1.out.trans hC2)
      clear hC2
      go_wp2_with fail
      go_ret
      exact ⟨rfl, hC1.out.below⟩
  cases hpp : parse p.data.toList with
  | none =>
    have hE : errOf p.data.toList = 4 := errOf_none (by omega) hpp
    replace hE := Lib.hid hE
    clear hpp
    clear hX hP hQ
    by_cases ht : t.size ≤ 40
    all_goals
      go_enter Try.func6, Try.ntmps6
      go_wp2_with fail
      refine (alive_any _).mono ?_
      rintro e w3 ⟨rfl, hC1⟩
      replace hC1 := Lib.hid hC1
      go_wp2_with fail
      refine (check_any p (by omega) _).mono ?_
      rintro e w4 ⟨rfl, hC2⟩
      rw [hE.out]
      replace hC1 := Lib.hid (hC1.out.trans hC2)
      clear hC2
      go_wp2_with fail
      refine (alive_any _).mono ?_
      rintro e w5 ⟨rfl, hC2⟩
      replace hC1 := Lib.hid (hC1.out.trans hC2)
      clear hC2
      go_wp2_with fail
      go_ret
      exact ⟨rfl, hC1.out.below⟩
  | some a =>
    have hE : errOf p.data.toList = 0 := errOf_some (by omega) hpp
    replace hE := Lib.hid hE
    have hL60 : p.data.toList.length ≤ 60 := by omega
    replace hpp := Lib.hid hpp
    cases hqq : parse q.data.toList with
    | none =>
      have hF : errOf q.data.toList = 4 := errOf_none (by omega) hqq
      replace hF := Lib.hid hF
      clear hqq
      clear hX hP hQ
      by_cases ht : t.size ≤ 40
      all_goals
        go_enter Try.func6, Try.ntmps6
        go_wp2_with fail
        refine (alive_any _).mono ?_
        rintro e w3 ⟨rfl, hC1⟩
        replace hC1 := Lib.hid hC1
        go_wp2_with fail
        refine (check_any p (by omega) _).mono ?_
        rintro e w4 ⟨rfl, hC2⟩
        rw [hE.out]
        replace hC1 := Lib.hid (hC1.out.trans hC2)
        clear hC2
        go_wp2_with fail
        refine (check_any q (by omega) _).mono ?_
        rintro e w4 ⟨rfl, hC2⟩
        rw [hF.out]
        replace hC1 := Lib.hid (hC1.out.trans hC2)
        clear hC2
        go_wp2_with fail
        refine (alive_any _).mono ?_
        rintro e w5 ⟨rfl, hC2⟩
        replace hC1 := Lib.hid (hC1.out.trans hC2)
        clear hC2
        go_wp2_with fail
        go_ret
        exact ⟨rfl, hC1.out.below⟩
    | some b =>
      have hF : errOf q.data.toList = 0 := errOf_some (by omega) hqq
      replace hF := Lib.hid hF
      have hM60 : q.data.toList.length ≤ 60 := by omega
      replace hqq := Lib.hid hqq
      have hpq : parse (p ++ q).data.toList = some (a ++ b) := by rw [app_list]; exact parse_app hpp.out hqq.out
      have hlen : (p ++ q).data.toList.length ≤ 120 := by rw [app_list, List.length_append]; omega
      replace hpq := Lib.hid hpq
      clear hP hQ
      by_cases ht : t.size ≤ 40
      · have hXs : t.size ≤ 40 := ht
        clear hX
        go_enter Try.func6, Try.ntmps6
        go_wp2_with fail
        refine (alive_any _).mono ?_
        rintro e w3 ⟨rfl, hC1⟩
        replace hC1 := Lib.hid hC1
        go_wp2_with fail
        refine (check_any p (by omega) _).mono ?_
        rintro e w4 ⟨rfl, hC2⟩
        rw [hE.out]
        replace hC1 := Lib.hid (hC1.out.trans hC2)
        clear hC2
        go_wp2_with fail
        refine (check_any q (by omega) _).mono ?_
        rintro e w4 ⟨rfl, hC2⟩
        rw [hF.out]
        replace hC1 := Lib.hid (hC1.out.trans hC2)
        clear hC2
        go_wp2_with fail
        obtain ⟨T, hT⟩ : ∃ T, t.data.toList = T := ⟨_, rfl⟩
        have hTl : T.length = t.size := by rw [← hT, ← size_list]
        replace hT := Lib.hid hT
        replace hTl := Lib.hid hTl
        obtain ⟨ok, hok⟩ : ∃ ok, Like (a ++ b) T = ok := ⟨_, rfl⟩
        replace hok := Lib.hid hok
        have hta : ∀ k, (t.extract 0 k).data.toList = T.take k := fun k => by rw [extract_list, hT.out, List.drop_zero]
        have htb : ∀ k, (t.extract k t.size).data.toList = T.drop k := fun k => by rw [extract_list, hT.out, List.take_of_length_le (by rw [hTl.out]; omega)]
        replace hta := Lib.hid hta
        replace htb := Lib.hid htb
        refine (match_is (p ++ q) t _ T (a ++ b) rfl hT.out (by omega) (by rw [hTl.out]; omega) hpq.out ok hok.out _).mono ?_
        rintro e w5 ⟨rfl, hD1⟩
        replace hC1 := Lib.hid (hC1.out.trans hD1.out)
        clear hD1
        go_wp2_with fail
        go_loopw [9, 54] (fun v9 v54 wr => ∃ (k : Nat) (want : Bool), v9 = .bool want ∧ v54 = .int .i64 k ∧ k ≤ t.size + 1 ∧ Hid (Cut a b T k = want) ∧ Hid (Chg [] w wr)) (fun _ v54 _ => t.size + 1 - (intOf v54).toNat)
        case atStart => exact ⟨0, false, rfl, rfl, by omega, (show Cut a b T 0 = false from rfl), hC1⟩
        case round =>
          obtain ⟨k, want, rfl, rfl, hk, hW, hC⟩ := hrel
          by_cases hlt : k ≤ t.size
          · obtain ⟨x, hx⟩ : ∃ x, Like a (T.take k) = x := ⟨_, rfl⟩
            obtain ⟨y, hy⟩ : ∃ y, Like b (T.drop k) = y := ⟨_, rfl⟩
            have hnew : Cut a b T (k + 1) = (want || (x && y)) := by rw [Cut.succ, hW.out, hx, hy]
            replace hnew := Lib.hid hnew
            replace hx := Lib.hid hx
            replace hy := Lib.hid hy
            clear hW
            go_wp2_with fail
            refine (match_is p _ _ (T.take k) a rfl (hta.out k) (by omega) (by rw [List.length_take, hTl.out]; omega) hpp.out x hx.out _).mono ?_
            rintro e w6 ⟨rfl, hD1⟩
            replace hC := Lib.hid (hC.out.trans hD1.out)
            clear hD1
            go_wp2_with fail
            refine (match_is q _ _ (T.drop k) b rfl (htb.out k) (by omega) (by rw [List.length_drop, hTl.out]; omega) hqq.out y hy.out _).mono ?_
            rintro e w7 ⟨rfl, hD1⟩
            replace hC := Lib.hid (hC.out.trans hD1.out)
            clear hD1 hx hy
            cases want <;> cases x <;> cases y
            all_goals
              go_wp2_with fail
              go_roundw
              case rel => exact ⟨k + 1, _, rfl, by go_num, by omega, hnew, hC⟩
              case measure => simp [intOf]; omega
          · obtain rfl : k = t.size + 1 := by omega
            obtain rfl : want = ok := by rw [← hW.out, ← hok.out, ← hTl.out]; exact Cut.all a b T
            clear hW hok
            cases want
            all_goals
              go_wp2_with fail
              go_ret
              exact ⟨rfl, hC.out.below⟩
      · have hXs := hX ht
        obtain ⟨tt, htt⟩ : ∃ tt, tt = t.extract 0 40 := ⟨_, rfl⟩
        rw [← htt] at hXs
        replace htt := Lib.hid htt
        clear hX
        go_enter Try.func6, Try.ntmps6
        go_wp2_with fail
        rw [← htt.out]
        clear htt ht
        refine (alive_any _).mono ?_
        rintro e w3 ⟨rfl, hC1⟩
        replace hC1 := Lib.hid hC1
        go_wp2_with fail
        refine (check_any p (by omega) _).mono ?_
        rintro e w4 ⟨rfl, hC2⟩
        rw [hE.out]
        replace hC1 := Lib.hid (hC1.out.trans hC2)
        clear hC2
        go_wp2_with fail
        refine (check_any q (by omega) _).mono ?_
        rintro e w4 ⟨rfl, hC2⟩
        rw [hF.out]
        replace hC1 := Lib.hid (hC1.out.trans hC2)
        clear hC2
        go_wp2_with fail
        obtain ⟨T, hT⟩ : ∃ T, tt.data.toList = T := ⟨_, rfl⟩
        have hTl : T.length = tt.size := by rw [← hT, ← size_list]
        replace hT := Lib.hid hT
        replace hTl := Lib.hid hTl
        obtain ⟨ok, hok⟩ : ∃ ok, Like (a ++ b) T = ok := ⟨_, rfl⟩
        replace hok := Lib.hid hok
        have hta : ∀ k, (tt.extract 0 k).data.toList = T.take k := fun k => by rw [extract_list, hT.out, List.drop_zero]
        have htb : ∀ k, (tt.extract k tt.size).data.toList = T.drop k := fun k => by rw [extract_list, hT.out, List.take_of_length_le (by rw [hTl.out]; omega)]
        replace hta := Lib.hid hta
        replace htb := Lib.hid htb
        refine (match_is (p ++ q) tt _ T (a ++ b) rfl hT.out (by omega) (by rw [hTl.out]; omega) hpq.out ok hok.out _).mono ?_
        rintro e w5 ⟨rfl, hD1⟩
        replace hC1 := Lib.hid (hC1.out.trans hD1.out)
        clear hD1
        go_wp2_with fail
        go_loopw [9, 54] (fun v9 v54 wr => ∃ (k : Nat) (want : Bool), v9 = .bool want ∧ v54 = .int .i64 k ∧ k ≤ tt.size + 1 ∧ Hid (Cut a b T k = want) ∧ Hid (Chg [] w wr)) (fun _ v54 _ => tt.size + 1 - (intOf v54).toNat)
        case atStart => exact ⟨0, false, rfl, rfl, by omega, (show Cut a b T 0 = false from rfl), hC1⟩
        case round =>
          obtain ⟨k, want, rfl, rfl, hk, hW, hC⟩ := hrel
          by_cases hlt : k ≤ tt.size
          · obtain ⟨x, hx⟩ : ∃ x, Like a (T.take k) = x := ⟨_, rfl⟩
            obtain ⟨y, hy⟩ : ∃ y, Like b (T.drop k) = y := ⟨_, rfl⟩
            have hnew : Cut a b T (k + 1) = (want || (x && y)) := by rw [Cut.succ, hW.out, hx, hy]
            replace hnew := Lib.hid hnew
            replace hx := Lib.hid hx
            replace hy := Lib.hid hy
            clear hW
            go_wp2_with fail
            refine (match_is p _ _ (T.take k) a rfl (hta.out k) (by omega) (by rw [List.length_take, hTl.out]; omega) hpp.out x hx.out _).mono ?_
            rintro e w6 ⟨rfl, hD1⟩
            replace hC := Lib.hid (hC.out.trans hD1.out)
            clear hD1
            go_wp2_with fail
            refine (match_is q _ _ (T.drop k) b rfl (htb.out k) (by omega) (by rw [List.length_drop, hTl.out]; omega) hqq.out y hy.out _).mono ?_
            rintro e w7 ⟨rfl, hD1⟩
            replace hC := Lib.hid (hC.out.trans hD1.out)
            clear hD1 hx hy
            cases want <;> cases x <;> cases y
            all_goals
              go_wp2_with fail
              go_roundw
              case rel => exact ⟨k + 1, _, rfl, by go_num, by omega, hnew, hC⟩
              case measure => simp [intOf]; omega
          · obtain rfl : k = tt.size + 1 := by omega
            obtain rfl : want = ok := by rw [← hW.out, ← hok.out, ← hTl.out]; exact Cut.all a b T
            clear hW hok
            cases want
            all_goals
              go_wp2_with fail
              go_ret
              exact ⟨rfl, hC.out.below⟩
end Go.Proofs.Ytjocfajnabkhaaa
