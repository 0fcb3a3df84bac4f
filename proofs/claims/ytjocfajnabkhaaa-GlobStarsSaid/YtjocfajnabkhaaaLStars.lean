/- The law GlobStars: its plain laws; the walk is begun. No condition. -/
import Derived.Test.YtjocfajnabkhaaaLMore
import Derived.Test.YtjocfajnabkhaaaReads
set_option linter.unusedVariables false
set_option linter.unusedSimpArgs false
namespace Go.Proofs.Ytjocfajnabkhaaa
open Go.RowKit Glob
theorem like_any_any (r : List Th) (t : List UInt8) : Like (.any :: .any :: r) t = Like (.any :: r) t := by
  rw [Bool.eq_iff_iff]
  constructor
  · intro h
    obtain ⟨d, hd, h1⟩ := drop_of_like_any _ _ h
    obtain ⟨e, he, h2⟩ := drop_of_like_any _ _ h1
    rw [List.drop_drop] at h2
    exact like_any_of_drop _ _ (d + e) h2
  · intro h
    exact like_any_of_drop _ _ 0 (by rw [List.drop_zero]; exact h)
theorem two_stars (a b : List Th) (t : List UInt8) : Like (a ++ (.any :: .any :: b)) t = Like (a ++ (.any :: b)) t := by
  rw [Bool.eq_iff_iff, like_append, like_append]
  constructor
  · rintro ⟨d, hd, h1, h2⟩; exact ⟨d, hd, h1, by rw [← like_any_any]; exact h2⟩
  · rintro ⟨d, hd, h1, h2⟩; exact ⟨d, hd, h1, by rw [like_any_any]; exact h2⟩
theorem parse_ones (k : Nat) : parse (List.replicate k 63) = some (List.replicate k .one) := by
  induction k with
  | zero => exact parse_nil
  | succ k ih => rw [List.replicate_succ, parse_one, ih]; rfl
theorem like_ones (k : Nat) : ∀ t : List UInt8, Like (List.replicate k .one) t = (t.length == k) := by
  induction k with
  | zero => intro t; cases t with
    | nil => rw [List.replicate_zero, like_nil_nil]; rfl
    | cons c t => rw [List.replicate_zero, like_nil_cons]; rfl
  | succ k ih => intro t; cases t with
    | nil => rw [List.replicate_succ, like_cons_nil rfl]; rfl
    | cons c t => rw [List.replicate_succ, like_cons_cons rfl, ih]; simp [Th.has]
theorem like_ones_any (k : Nat) : ∀ t : List UInt8, Like (List.replicate k .one ++ [.any]) t = decide (k ≤ t.length) := by
  induction k with
  | zero => intro t; rw [List.replicate_zero, List.nil_append, like_all]; simp
  | succ k ih => intro t; cases t with
    | nil => rw [List.replicate_succ, List.cons_append, like_cons_nil rfl]; simp
    | cons c t => rw [List.replicate_succ, List.cons_append, like_cons_cons rfl, ih]; simp [Th.has]
set_option maxRecDepth 100000 in
set_option maxHeartbeats 40000000 in
theorem globStars_walk (p q t : ByteArray) (n : Int) (hn1 : -9223372036854775808 ≤ n) (hn2 : n ≤ 9223372036854775807) (w1 : t.size ≤ maxLen) (w : World) :
    Calls Try.prog 8 #[.agg #[.string p, .string q], .string t, .int .i64 n] w fun e w' => e = .returned (.bool true) ∧ Below w.heap.size w w' := by
  have hP := size_list p
  have hQ := size_list q
  have hX : ¬ t.size ≤ 40 → (t.extract 0 40).size ≤ 40 := fun h => by rw [ByteArray.size_extract]; omega
  by_cases hp60 : p.size ≤ 30
  case neg =>
    clear hX hP hQ
    by_cases hn : 0 < n <;> by_cases ht : t.size ≤ 40
    all_goals
      go_enter Try.func8, Try.ntmps8
      go_wp2_with fail
      go_quiet (fail)
      go_wp2_with fail
      refine (alive_any _).mono ?_
      rintro e w3 ⟨rfl, hC1⟩
      replace hC1 := Lib.hid ((((Chg.refl [] w).alloc (.cells #[.string p, .string q] 41)).drewN nq).trans hC1)
      go_wp2_with fail
      refine (alive_any _).mono ?_
      rintro e w5 ⟨rfl, hC2⟩
      replace hC1 := Lib.hid (hC1.out.trans hC2)
      clear hC2
      go_wp2_with fail
      go_ret
      exact ⟨rfl, hC1.out.below⟩
  by_cases hq60 : q.size ≤ 30
  case neg =>
    clear hX hP hQ
    by_cases hn : 0 < n <;> by_cases ht : t.size ≤ 40
    all_goals
      go_enter Try.func8, Try.ntmps8
      go_wp2_with fail
      go_quiet (fail)
      go_wp2_with fail
      refine (alive_any _).mono ?_
      rintro e w3 ⟨rfl, hC1⟩
      replace hC1 := Lib.hid ((((Chg.refl [] w).alloc (.cells #[.string p, .string q] 41)).drewN nq).trans hC1)
      go_wp2_with fail
      refine (alive_any _).mono ?_
      rintro e w5 ⟨rfl, hC2⟩
      replace hC1 := Lib.hid (hC1.out.trans hC2)
      clear hC2
      go_wp2_with fail
      go_ret
      exact ⟨rfl, hC1.out.below⟩
  cases hpp : parse p.data.toList with
  | none =>
    have hE : errOf p.data.toList = 4 := errOf_none (by omega) hpp
    replace hE := Lib.hid hE
    clear hpp
    clear hX hP hQ
    by_cases hn : 0 < n <;> by_cases ht : t.size ≤ 40
    all_goals
      go_enter Try.func8, Try.ntmps8
      go_wp2_with fail
      go_quiet (fail)
      go_wp2_with fail
      refine (alive_any _).mono ?_
      rintro e w3 ⟨rfl, hC1⟩
      replace hC1 := Lib.hid ((((Chg.refl [] w).alloc (.cells #[.string p, .string q] 41)).drewN nq).trans hC1)
      go_wp2_with fail
      refine (check_any p (by omega) _).mono ?_
      rintro e w4 ⟨rfl, hC2⟩
      rw [hE.out]
      replace hC1 := Lib.hid (hC1.out.trans hC2)
      clear hC2
      go_wp2_with fail
      refine (alive_any _).mono ?_
      rintro e w5 ⟨rfl, hC2⟩
      replace hC1 := Lib.hid (hC1.out.trans hC2)
      clear hC2
      go_wp2_with fail
      go_ret
      exact ⟨rfl, hC1.out.below⟩
  | some a =>
    have hE : errOf p.data.toList = 0 := errOf_some (by omega) hpp
    replace hE := Lib.hid hE
    have hL60 : p.data.toList.length ≤ 30 := by omega
    replace hpp := Lib.hid hpp
    cases hqq : parse q.data.toList with
    | none =>
      have hF : errOf q.data.toList = 4 := errOf_none (by omega) hqq
      replace hF := Lib.hid hF
      clear hqq
      clear hX hP hQ
      by_cases hn : 0 < n <;> by_cases ht : t.size ≤ 40
      all_goals
        go_enter Try.func8, Try.ntmps8
        go_wp2_with fail
        go_quiet (fail)
        go_wp2_with fail
        refine (alive_any _).mono ?_
        rintro e w3 ⟨rfl, hC1⟩
        replace hC1 := Lib.hid ((((Chg.refl [] w).alloc (.cells #[.string p, .string q] 41)).drewN nq).trans hC1)
        go_wp2_with fail
        refine (check_any p (by omega) _).mono ?_
        rintro e w4 ⟨rfl, hC2⟩
        rw [hE.out]
        replace hC1 := Lib.hid (hC1.out.trans hC2)
        clear hC2
        go_wp2_with fail
        refine (check_any q (by omega) _).mono ?_
        rintro e w4 ⟨rfl, hC2⟩
        rw [hF.out]
        replace hC1 := Lib.hid (hC1.out.trans hC2)
        clear hC2
        go_wp2_with fail
        refine (alive_any _).mono ?_
        rintro e w5 ⟨rfl, hC2⟩
        replace hC1 := Lib.hid (hC1.out.trans hC2)
        clear hC2
        go_wp2_with fail
        go_ret
        exact ⟨rfl, hC1.out.below⟩
    | some b =>
      have hF : errOf q.data.toList = 0 := errOf_some (by omega) hqq
      replace hF := Lib.hid hF
      have hM60 : q.data.toList.length ≤ 30 := by omega
      replace hqq := Lib.hid hqq
      have hpq1 : parse (p.data.toList ++ [42] ++ q.data.toList) = some (a ++ (.any :: b)) := by
        rw [List.append_assoc]; exact parse_app hpp.out (parse_app parse_any1 hqq.out)
      have hpq2 : parse (p.data.toList ++ [42, 42] ++ q.data.toList) = some (a ++ (.any :: .any :: b)) := by
        rw [List.append_assoc]; exact parse_app hpp.out (parse_app (a := [.any, .any]) (by rw [parse_star, parse_any1]; rfl) hqq.out)
      have hlen1 : (p.data.toList ++ [42] ++ q.data.toList).length ≤ 1024 := by
        rw [List.length_append, List.length_append, List.length_singleton]; omega
      have hlen2 : (p.data.toList ++ [42, 42] ++ q.data.toList).length ≤ 1024 := by
        rw [List.length_append, List.length_append]; simp only [List.length_cons, List.length_nil]; omega
      have hl1 : (p ++ ⟨#[42]⟩ ++ q).data.toList = p.data.toList ++ [42] ++ q.data.toList := by rw [app_list, app_list]
      have hl2 : (p ++ ⟨#[42, 42]⟩ ++ q).data.toList = p.data.toList ++ [42, 42] ++ q.data.toList := by rw [app_list, app_list]
      obtain ⟨P1, hP1⟩ : ∃ P1, p.data.toList ++ [42] ++ q.data.toList = P1 := ⟨_, rfl⟩
      obtain ⟨P2, hP2⟩ : ∃ P2, p.data.toList ++ [42, 42] ++ q.data.toList = P2 := ⟨_, rfl⟩
      rw [hP1] at hpq1 hlen1 hl1
      rw [hP2] at hpq2 hlen2 hl2
      clear hP1 hP2
      replace hl1 := Lib.hid hl1
      replace hl2 := Lib.hid hl2
      replace hlen1 := Lib.hid hlen1
      replace hlen2 := Lib.hid hlen2
      replace hpq1 := Lib.hid hpq1
      replace hpq2 := Lib.hid hpq2
      clear hP hQ
      by_cases hn : 0 < n
      · by_cases ht : t.size ≤ 40
        · obtain ⟨k, hk⟩ : ∃ k : Nat, n % 45 = k := ⟨(n % 45).toNat, by omega⟩
          have hk45 : k < 45 := by omega
          have hXs : t.size ≤ 40 := ht
          clear hX
          go_enter Try.func8, Try.ntmps8
          go_wp2_with fail
          go_quiet (fail)
          go_wp2_with fail
          try rw [hk]
          refine (alive_any _).mono ?_
          rintro e w3 ⟨rfl, hC1⟩
          replace hC1 := Lib.hid ((((Chg.refl [] w).alloc (.cells #[.string p, .string q] 41)).drewN nq).trans hC1)
          go_wp2_with fail
          refine (check_any p (by omega) _).mono ?_
          rintro e w4 ⟨rfl, hC2⟩
          rw [hE.out]
          replace hC1 := Lib.hid (hC1.out.trans hC2)
          clear hC2
          go_wp2_with fail
          refine (check_any q (by omega) _).mono ?_
          rintro e w4 ⟨rfl, hC2⟩
          rw [hF.out]
          replace hC1 := Lib.hid (hC1.out.trans hC2)
          clear hC2
          go_wp2_with fail
          obtain ⟨T, hT⟩ : ∃ T, t.data.toList = T := ⟨_, rfl⟩
          have hTl : T.length = t.size := by rw [← hT, ← size_list]
          replace hT := Lib.hid hT
          replace hTl := Lib.hid hTl
          obtain ⟨ok, hok⟩ : ∃ ok, Like (a ++ (.any :: b)) T = ok := ⟨_, rfl⟩
          have hok2 : Like (a ++ (.any :: .any :: b)) T = ok := (two_stars a b T).trans hok
          replace hok := Lib.hid hok
          replace hok2 := Lib.hid hok2
          refine (match_is _ t P1 T _ hl1.out hT.out hlen1.out (by rw [hTl.out]; omega) hpq1.out ok hok.out _).mono ?_
          rintro e w5 ⟨rfl, hD1⟩
          replace hC1 := Lib.hid (hC1.out.trans hD1.out)
          clear hD1
          go_wp2_with fail
          refine (match_is _ t P2 T _ hl2.out hT.out hlen2.out (by rw [hTl.out]; omega) hpq2.out ok hok2.out _).mono ?_
          rintro e w6 ⟨rfl, hD1⟩
          replace hC1 := Lib.hid (hC1.out.trans hD1.out)
          clear hD1
          go_wp2_with fail
          go_loopw [14, 73] (fun v14 v73 wr => ∃ (j : Nat) (z : ByteArray), v14 = .string z ∧ v73 = .int .i64 j ∧ j ≤ k ∧ z.size = j ∧ Hid (z.data.toList = List.replicate j 63) ∧ Hid (Chg [] w wr)) (fun _ v73 _ => k - (intOf v73).toNat)
          case atStart => exact ⟨0, _, rfl, rfl, by omega, rfl, (show _ = _ from rfl), hC1⟩
          case round =>
            obtain ⟨j, z, rfl, rfl, hj, hz, hZ, hC⟩ := hrel
            by_cases hlt : j < k
            · have hnew : (z ++ ⟨#[63]⟩).data.toList = List.replicate (j + 1) 63 := by rw [app_list, hZ.out, List.replicate_succ']
              have hnz : (z ++ ⟨#[63]⟩ : ByteArray).size = j + 1 := by rw [ByteArray.size_append, hz]; rfl
              replace hnew := Lib.hid hnew
              replace hnz := Lib.hid hnz
              go_wp2_with fail
              go_roundw
              case rel => exact ⟨j + 1, _, rfl, by go_num, by omega, hnz.out, hnew, hC⟩
              case measure => simp [intOf]; omega
            · obtain rfl : j = k := by omega
              have e1 : Like (List.replicate j .one) T = ((t.size : Int) == (j : Int)) := by
                rw [like_ones, hTl.out, Bool.eq_iff_iff, beq_iff_eq, beq_iff_eq]; omega
              have e2 : Like (List.replicate j .one ++ [.any]) T = decide ((j : Int) ≤ (t.size : Int)) := by
                rw [like_ones_any, hTl.out, Bool.eq_iff_iff, decide_eq_true_iff, decide_eq_true_iff]; omega
              replace e1 := Lib.hid e1
              replace e2 := Lib.hid e2
              go_wp2_with fail
              refine (match_is z t _ T _ hZ.out hT.out (by rw [List.length_replicate]; omega) (by rw [hTl.out]; omega) (parse_ones _) _ e1.out _).mono ?_
              rintro e w7 ⟨rfl, hD1⟩
              replace hC := Lib.hid (hC.out.trans hD1.out)
              clear hD1
              go_wp2_with fail
              refine (match_is _ t _ T _ ((app_list z ⟨#[42]⟩).trans (by rw [hZ.out])) hT.out (by rw [List.length_append, List.length_replicate]; show _ + 1 ≤ _; omega) (by rw [hTl.out]; omega) (parse_app (parse_ones _) parse_any1) _ e2.out _).mono ?_
              rintro e w8 ⟨rfl, hD1⟩
              replace hC := Lib.hid (hC.out.trans hD1.out)
              clear hD1
              cases ok
              all_goals
                go_wp2_with fail
                go_ret
                exact ⟨by simp, hC.out.below⟩
        · obtain ⟨k, hk⟩ : ∃ k : Nat, n % 45 = k := ⟨(n % 45).toNat, by omega⟩
          have hk45 : k < 45 := by omega
          have hXs := hX ht
          obtain ⟨tt, htt⟩ : ∃ tt, tt = t.extract 0 40 := ⟨_, rfl⟩
          rw [← htt] at hXs
          replace htt := Lib.hid htt
          clear hX
          go_enter Try.func8, Try.ntmps8
          go_wp2_with fail
          go_quiet (fail)
          go_wp2_with fail
          try rw [hk]
          rw [← htt.out]
          clear htt ht
          refine (alive_any _).mono ?_
          rintro e w3 ⟨rfl, hC1⟩
          replace hC1 := Lib.hid ((((Chg.refl [] w).alloc (.cells #[.string p, .string q] 41)).drewN nq).trans hC1)
          go_wp2_with fail
          refine (check_any p (by omega) _).mono ?_
          rintro e w4 ⟨rfl, hC2⟩
          rw [hE.out]
          replace hC1 := Lib.hid (hC1.out.trans hC2)
          clear hC2
          go_wp2_with fail
          refine (check_any q (by omega) _).mono ?_
          rintro e w4 ⟨rfl, hC2⟩
          rw [hF.out]
          replace hC1 := Lib.hid (hC1.out.trans hC2)
          clear hC2
          go_wp2_with fail
          obtain ⟨T, hT⟩ : ∃ T, tt.data.toList = T := ⟨_, rfl⟩
          have hTl : T.length = tt.size := by rw [← hT, ← size_list]
          replace hT := Lib.hid hT
          replace hTl := Lib.hid hTl
          obtain ⟨ok, hok⟩ : ∃ ok, Like (a ++ (.any :: b)) T = ok := ⟨_, rfl⟩
          have hok2 : Like (a ++ (.any :: .any :: b)) T = ok := (two_stars a b T).trans hok
          replace hok := Lib.hid hok
          replace hok2 := Lib.hid hok2
          refine (match_is _ tt P1 T _ hl1.out hT.out hlen1.out (by rw [hTl.out]; omega) hpq1.out ok hok.out _).mono ?_
          rintro e w5 ⟨rfl, hD1⟩
          replace hC1 := Lib.hid (hC1.out.trans hD1.out)
          clear hD1
          go_wp2_with fail
          refine (match_is _ tt P2 T _ hl2.out hT.out hlen2.out (by rw [hTl.out]; omega) hpq2.out ok hok2.out _).mono ?_
          rintro e w6 ⟨rfl, hD1⟩
          replace hC1 := Lib.hid (hC1.out.trans hD1.out)
          clear hD1
          go_wp2_with fail
          go_loopw [14, 73] (fun v14 v73 wr => ∃ (j : Nat) (z : ByteArray), v14 = .string z ∧ v73 = .int .i64 j ∧ j ≤ k ∧ z.size = j ∧ Hid (z.data.toList = List.replicate j 63) ∧ Hid (Chg [] w wr)) (fun _ v73 _ => k - (intOf v73).toNat)
          case atStart => exact ⟨0, _, rfl, rfl, by omega, rfl, (show _ = _ from rfl), hC1⟩
          case round =>
            obtain ⟨j, z, rfl, rfl, hj, hz, hZ, hC⟩ := hrel
            by_cases hlt : j < k
            · have hnew : (z ++ ⟨#[63]⟩).data.toList = List.replicate (j + 1) 63 := by rw [app_list, hZ.out, List.replicate_succ']
              have hnz : (z ++ ⟨#[63]⟩ : ByteArray).size = j + 1 := by rw [ByteArray.size_append, hz]; rfl
              replace hnew := Lib.hid hnew
              replace hnz := Lib.hid hnz
              go_wp2_with fail
              go_roundw
              case rel => exact ⟨j + 1, _, rfl, by go_num, by omega, hnz.out, hnew, hC⟩
              case measure => simp [intOf]; omega
            · obtain rfl : j = k := by omega
              have e1 : Like (List.replicate j .one) T = ((tt.size : Int) == (j : Int)) := by
                rw [like_ones, hTl.out, Bool.eq_iff_iff, beq_iff_eq, beq_iff_eq]; omega
              have e2 : Like (List.replicate j .one ++ [.any]) T = decide ((j : Int) ≤ (tt.size : Int)) := by
                rw [like_ones_any, hTl.out, Bool.eq_iff_iff, decide_eq_true_iff, decide_eq_true_iff]; omega
              replace e1 := Lib.hid e1
              replace e2 := Lib.hid e2
              go_wp2_with fail
              refine (match_is z tt _ T _ hZ.out hT.out (by rw [List.length_replicate]; omega) (by rw [hTl.out]; omega) (parse_ones _) _ e1.out _).mono ?_
              rintro e w7 ⟨rfl, hD1⟩
              replace hC := Lib.hid (hC.out.trans hD1.out)
              clear hD1
              go_wp2_with fail
              refine (match_is _ tt _ T _ ((app_list z ⟨#[42]⟩).trans (by rw [hZ.out])) hT.out (by rw [List.length_append, List.length_replicate]; show _ + 1 ≤ _; omega) (by rw [hTl.out]; omega) (parse_app (parse_ones _) parse_any1) _ e2.out _).mono ?_
              rintro e w8 ⟨rfl, hD1⟩
              replace hC := Lib.hid (hC.out.trans hD1.out)
              clear hD1
              cases ok
              all_goals
                go_wp2_with fail
                go_ret
                exact ⟨by simp, hC.out.below⟩
      · by_cases ht : t.size ≤ 40
        · have hXs : t.size ≤ 40 := ht
          clear hX
          go_enter Try.func8, Try.ntmps8
          go_wp2_with fail
          go_quiet (fail)
          go_wp2_with fail
          refine (alive_any _).mono ?_
          rintro e w3 ⟨rfl, hC1⟩
          replace hC1 := Lib.hid ((((Chg.refl [] w).alloc (.cells #[.string p, .string q] 41)).drewN nq).trans hC1)
          go_wp2_with fail
          refine (check_any p (by omega) _).mono ?_
          rintro e w4 ⟨rfl, hC2⟩
          rw [hE.out]
          replace hC1 := Lib.hid (hC1.out.trans hC2)
          clear hC2
          go_wp2_with fail
          refine (check_any q (by omega) _).mono ?_
          rintro e w4 ⟨rfl, hC2⟩
          rw [hF.out]
          replace hC1 := Lib.hid (hC1.out.trans hC2)
          clear hC2
          go_wp2_with fail
          obtain ⟨T, hT⟩ : ∃ T, t.data.toList = T := ⟨_, rfl⟩
          have hTl : T.length = t.size := by rw [← hT, ← size_list]
          replace hT := Lib.hid hT
          replace hTl := Lib.hid hTl
          obtain ⟨ok, hok⟩ : ∃ ok, Like (a ++ (.any :: b)) T = ok := ⟨_, rfl⟩
          have hok2 : Like (a ++ (.any :: .any :: b)) T = ok := (two_stars a b T).trans hok
          replace hok := Lib.hid hok
          replace hok2 := Lib.hid hok2
          refine (match_is _ t P1 T _ hl1.out hT.out hlen1.out (by rw [hTl.out]; omega) hpq1.out ok hok.out _).mono ?_
          rintro e w5 ⟨rfl, hD1⟩
          replace hC1 := Lib.hid (hC1.out.trans hD1.out)
          clear hD1
          go_wp2_with fail
          refine (match_is _ t P2 T _ hl2.out hT.out hlen2.out (by rw [hTl.out]; omega) hpq2.out ok hok2.out _).mono ?_
          rintro e w6 ⟨rfl, hD1⟩
          replace hC1 := Lib.hid (hC1.out.trans hD1.out)
          clear hD1
          go_wp2_with fail
          go_loopw [14, 73] (fun v14 v73 wr => ∃ (j : Nat) (z : ByteArray), v14 = .string z ∧ v73 = .int .i64 j ∧ j ≤ 0 ∧ z.size = j ∧ Hid (z.data.toList = List.replicate j 63) ∧ Hid (Chg [] w wr)) (fun _ v73 _ => 0 - (intOf v73).toNat)
          case atStart => exact ⟨0, _, rfl, rfl, by omega, rfl, (show _ = _ from rfl), hC1⟩
          case round =>
            obtain ⟨j, z, rfl, rfl, hj, hz, hZ, hC⟩ := hrel
            obtain rfl : j = 0 := by omega
            have e1 : Like (List.replicate 0 .one) T = ((t.size : Int) == (0 : Int)) := by
              rw [like_ones, hTl.out, Bool.eq_iff_iff, beq_iff_eq, beq_iff_eq]; omega
            have e2 : Like (List.replicate 0 .one ++ [.any]) T = true := by
              rw [like_ones_any]; simp
            replace e1 := Lib.hid e1
            replace e2 := Lib.hid e2
            go_wp2_with fail
            refine (match_is z t _ T _ hZ.out hT.out (by rw [List.length_replicate]; omega) (by rw [hTl.out]; omega) (parse_ones _) _ e1.out _).mono ?_
            rintro e w7 ⟨rfl, hD1⟩
            replace hC := Lib.hid (hC.out.trans hD1.out)
            clear hD1
            go_wp2_with fail
            refine (match_is _ t _ T _ ((app_list z ⟨#[42]⟩).trans (by rw [hZ.out])) hT.out (by rw [List.length_append, List.length_replicate]; show _ + 1 ≤ _; omega) (by rw [hTl.out]; omega) (parse_app (parse_ones _) parse_any1) _ e2.out _).mono ?_
            rintro e w8 ⟨rfl, hD1⟩
            replace hC := Lib.hid (hC.out.trans hD1.out)
            clear hD1
            cases ok
            all_goals
              go_wp2_with fail
              go_ret
              exact ⟨by simp, hC.out.below⟩
        · have hXs := hX ht
          obtain ⟨tt, htt⟩ : ∃ tt, tt = t.extract 0 40 := ⟨_, rfl⟩
          rw [← htt] at hXs
          replace htt := Lib.hid htt
          clear hX
          go_enter Try.func8, Try.ntmps8
          go_wp2_with fail
          go_quiet (fail)
          go_wp2_with fail
          rw [← htt.out]
          clear htt ht
          refine (alive_any _).mono ?_
          rintro e w3 ⟨rfl, hC1⟩
          replace hC1 := Lib.hid ((((Chg.refl [] w).alloc (.cells #[.string p, .string q] 41)).drewN nq).trans hC1)
          go_wp2_with fail
          refine (check_any p (by omega) _).mono ?_
          rintro e w4 ⟨rfl, hC2⟩
          rw [hE.out]
          replace hC1 := Lib.hid (hC1.out.trans hC2)
          clear hC2
          go_wp2_with fail
          refine (check_any q (by omega) _).mono ?_
          rintro e w4 ⟨rfl, hC2⟩
          rw [hF.out]
          replace hC1 := Lib.hid (hC1.out.trans hC2)
          clear hC2
          go_wp2_with fail
          obtain ⟨T, hT⟩ : ∃ T, tt.data.toList = T := ⟨_, rfl⟩
          have hTl : T.length = tt.size := by rw [← hT, ← size_list]
          replace hT := Lib.hid hT
          replace hTl := Lib.hid hTl
          obtain ⟨ok, hok⟩ : ∃ ok, Like (a ++ (.any :: b)) T = ok := ⟨_, rfl⟩
          have hok2 : Like (a ++ (.any :: .any :: b)) T = ok := (two_stars a b T).trans hok
          replace hok := Lib.hid hok
          replace hok2 := Lib.hid hok2
          refine (match_is _ tt P1 T _ hl1.out hT.out hlen1.out (by rw [hTl.out]; omega) hpq1.out ok hok.out _).mono ?_
          rintro e w5 ⟨rfl, hD1⟩
          replace hC1 := Lib.hid (hC1.out.trans hD1.out)
          clear hD1
          go_wp2_with fail
          refine (match_is _ tt P2 T _ hl2.out hT.out hlen2.out (by rw [hTl.out]; omega) hpq2.out ok hok2.out _).mono ?_
          rintro e w6 ⟨rfl, hD1⟩
          replace hC1 := Lib.hid (hC1.out.trans hD1.out)
          clear hD1
          go_wp2_with fail
          go_loopw [14, 73] (fun v14 v73 wr => ∃ (j : Nat) (z : ByteArray), v14 = .string z ∧ v73 = .int .i64 j ∧ j ≤ 0 ∧ z.size = j ∧ Hid (z.data.toList = List.replicate j 63) ∧ Hid (Chg [] w wr)) (fun _ v73 _ => 0 - (intOf v73).toNat)
          case atStart => exact ⟨0, _, rfl, rfl, by omega, rfl, (show _ = _ from rfl), hC1⟩
          case round =>
            obtain ⟨j, z, rfl, rfl, hj, hz, hZ, hC⟩ := hrel
            obtain rfl : j = 0 := by omega
            have e1 : Like (List.replicate 0 .one) T = ((tt.size : Int) == (0 : Int)) := by
              rw [like_ones, hTl.out, Bool.eq_iff_iff, beq_iff_eq, beq_iff_eq]; omega
            have e2 : Like (List.replicate 0 .one ++ [.any]) T = true := by
              rw [like_ones_any]; simp
            replace e1 := Lib.hid e1
            replace e2 := Lib.hid e2
            go_wp2_with fail
            refine (match_is z tt _ T _ hZ.out hT.out (by rw [List.length_replicate]; omega) (by rw [hTl.out]; omega) (parse_ones _) _ e1.out _).mono ?_
            rintro e w7 ⟨rfl, hD1⟩
            replace hC := Lib.hid (hC.out.trans hD1.out)
            clear hD1
            go_wp2_with fail
            refine (match_is _ tt _ T _ ((app_list z ⟨#[42]⟩).trans (by rw [hZ.out])) hT.out (by rw [List.length_append, List.length_replicate]; show _ + 1 ≤ _; omega) (by rw [hTl.out]; omega) (parse_app (parse_ones _) parse_any1) _ e2.out _).mono ?_
            rintro e w8 ⟨rfl, hD1⟩
            replace hC := Lib.hid (hC.out.trans hD1.out)
            clear hD1
            cases ok
            all_goals
              go_wp2_with fail
              go_ret
              exact ⟨by simp, hC.out.below⟩
theorem i64_of_reads {w : World} {u : Value} {d : Dt} (h : Reads w (.int .i64) u d) : ∃ n : Int, u = .int .i64 n ∧ -9223372036854775808 ≤ n ∧ n ≤ 9223372036854775807 := by
  cases h with
  | int h =>
    rename_i n
    have h' : IntKind.i64.min ≤ n ∧ n ≤ IntKind.i64.max := by simpa [Lit.wf] using h
    have m1 : IntKind.i64.min = -9223372036854775808 := rfl
    have m2 : IntKind.i64.max = 9223372036854775807 := rfl
    rw [m1, m2] at h'
    exact ⟨n, rfl, h'⟩
theorem globStars_row (a0 : Array Value) (v1 : Value) (d1 : Dt) (v2 : Value) (d2 : Dt) (w : World) (r0 : a0.size = 2 ∧ ∀ (i : Nat) (u : Value), a0[i]? = some u → ∃ d, Reads w .str u d) (h1 : Reads w .str v1 d1) (h2 : Reads w (.int .i64) v2 d2) :
    Calls Try.prog 8 #[.agg a0, v1, v2] w fun e w' => e = .returned (.bool true) ∧ Below w.heap.size w w' := by
  obtain ⟨hs, hr⟩ := r0
  obtain ⟨l⟩ := a0
  match l, hs with
  | [u0, u1], _ =>
    obtain ⟨e0, g0⟩ := hr 0 u0 rfl
    obtain ⟨e1, g1⟩ := hr 1 u1 rfl
    obtain ⟨n, rfl, b1, b2⟩ := i64_of_reads h2
    cases g0 with
    | str m0 =>
      cases g1 with
      | str m1 =>
        cases h1 with
        | str hm => exact globStars_walk _ _ _ n b1 b2 hm w
end Go.Proofs.Ytjocfajnabkhaaa
