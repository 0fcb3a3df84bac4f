/- The law GlobMore, walked. No condition. -/
import Derived.Test.YtjocfajnabkhaaaAlive
set_option linter.unusedVariables false
set_option linter.unusedSimpArgs false
namespace Go.Proofs.Ytjocfajnabkhaaa
open Go.RowKit Glob
theorem parse_any1 : parse [42] = some [.any] := by rw [parse_star, parse_nil]; rfl
theorem parse_one1 : parse [63] = some [.one] := by rw [parse_one, parse_nil]; rfl
theorem like_all (t : List UInt8) : Like [.any] t = true := like_any_of_drop [] t t.length (by rw [List.drop_length]; exact like_nil_nil)
theorem more_behind {ths : List Th} {T : List UInt8} (M : List UInt8) (h : Like ths T = true) : Like (ths ++ [.any]) (T ++ M) = true :=
  (like_append ths [.any] (T ++ M)).2 ⟨T.length, by simp, by rw [List.take_left]; exact h, like_all _⟩
theorem more_ahead {ths : List Th} {T : List UInt8} (M : List UInt8) (h : Like ths T = true) : Like (.any :: ths) (M ++ T) = true :=
  like_any_of_drop ths (M ++ T) M.length (by rw [List.drop_left]; exact h)
theorem one_behind (ths : List Th) (T : List UInt8) (c : UInt8) : Like (ths ++ [.one]) (T ++ [c]) = Like ths T := by
  rw [Bool.eq_iff_iff, like_append]
  constructor
  · rintro ⟨d, hd, h1, h2⟩
    have hlen : ∀ t : List UInt8, Like [.one] t = true → t.length = 1 := by
      intro t ht
      match t with
      | [] => rw [like_cons_nil rfl] at ht; cases ht
      | [_] => rfl
      | a :: b :: r => rw [like_cons_cons rfl, like_nil_cons] at ht; simp at ht
    have := hlen _ h2
    rw [List.length_drop, List.length_append] at this
    simp only [List.length_cons, List.length_nil, List.length_append] at this hd
    have hd' : d = T.length := by omega
    rw [hd', List.take_left] at h1; exact h1
  · intro h
    exact ⟨T.length, by simp, by rw [List.take_left]; exact h, by rw [List.drop_left, like_cons_cons rfl, like_nil_nil]; rfl⟩
theorem match_is (s t : ByteArray) (L T : List UInt8) (ths : List Th) (hL : s.data.toList = L) (hT : t.data.toList = T) (h1 : L.length ≤ 1024) (h2 : T.length ≤ 9223372036854775807) (hp : parse L = some ths) (b : Bool) (hb : Like ths T = b) (w : World) :
    Calls Try.prog 15 #[.string s, .string t] w fun e w' => e = .returned (.tuple #[.bool b, .int .i64 0]) ∧ Hid (Chg [] w w') := by
  have h := match_ok s t L T ths hL hT h1 h2 hp w
  rw [hb] at h; exact h
set_option maxRecDepth 100000 in
set_option maxHeartbeats 4000000 in
theorem globMore_walk (p t m : ByteArray) (w0 : p.size ≤ maxLen) (w1 : t.size ≤ maxLen) (w2 : m.size ≤ maxLen) (w : World) :
    Calls Try.prog 7 #[.string p, .string t, .string m] w fun e w' => e = .returned (.bool true) ∧ Below w.heap.size w w' := by
  have hP := size_list p
  have hs40 : ∀ s : ByteArray, ¬ s.size ≤ 40 → (s.extract 0 40).data.toList.length ≤ 40 := fun s h => by rw [← size_list, ByteArray.size_extract]; omega
  by_cases hp60 : p.size ≤ 60
  · cases hpp : parse p.data.toList with
    | none =>
      have hE : errOf p.data.toList = 4 := errOf_none (by omega) hpp
      replace hE := Lib.hid hE
      clear hpp hP hs40
      by_cases ht : t.size ≤ 40 <;> by_cases hm : m.size ≤ 40
      all_goals
        go_enter Try.func7, Try.ntmps7
        go_wp2_with fail
        go_quiet (fail)
        go_wp2_with fail
        refine (alive_any _).mono ?_
        rintro e w3 ⟨rfl, hC1⟩
        replace hC1 := Lib.hid (((Chg.refl [] w).drewN nq).trans hC1)
        go_wp2_with fail
        refine (check_any p (by omega) _).mono ?_
        rintro e w4 ⟨rfl, hC2⟩
        rw [hE.out]
        replace hC1 := Lib.hid (hC1.out.trans hC2)
        clear hC2 hE
        go_wp2_with fail
        refine (alive_any _).mono ?_
        rintro e w5 ⟨rfl, hC2⟩
        replace hC1 := Lib.hid (hC1.out.trans hC2)
        clear hC2
        go_wp2_with fail
        go_ret
        exact ⟨rfl, hC1.out.below⟩
    | some ths =>
      have hE : errOf p.data.toList = 0 := errOf_some (by omega) hpp
      have hL60 : p.data.toList.length ≤ 60 := by omega
      replace hE := Lib.hid hE
      replace hpp := Lib.hid hpp
      clear hP
      by_cases ht : t.size ≤ 40
      · by_cases hm : m.size ≤ 40
        · obtain ⟨T, hT⟩ : ∃ T, t.data.toList = T := ⟨_, rfl⟩
          have hT40 : T.length ≤ 40 := by rw [← hT]; exact by rw [← size_list]; exact ht
          obtain ⟨M, hM⟩ : ∃ M, m.data.toList = M := ⟨_, rfl⟩
          have hM40 : M.length ≤ 40 := by rw [← hM]; exact by rw [← size_list]; exact hm
          replace hT := Lib.hid hT
          replace hM := Lib.hid hM
          obtain ⟨ok, hok⟩ : ∃ ok, Like ths T = ok := ⟨_, rfl⟩
          obtain ⟨a, ha⟩ : ∃ a, Like (ths ++ [.any]) (T ++ M) = a := ⟨_, rfl⟩
          obtain ⟨c, hc⟩ : ∃ c, Like (.any :: ths) (M ++ T) = c := ⟨_, rfl⟩
          have hb : Like (ths ++ [.one]) (T ++ [120]) = ok := (one_behind ths T 120).trans hok
          have hac : ok = true → a = true ∧ c = true := fun h => ⟨by rw [← ha]; exact more_behind M (hok.trans h), by rw [← hc]; exact more_ahead M (hok.trans h)⟩
          replace hok := Lib.hid hok
          replace ha := Lib.hid ha
          replace hc := Lib.hid hc
          replace hb := Lib.hid hb
          replace hac := Lib.hid hac
          clear hs40
          go_enter Try.func7, Try.ntmps7
          go_wp2_with fail
          go_quiet (fail)
          go_wp2_with fail
          refine (alive_any _).mono ?_
          rintro e w3 ⟨rfl, hC1⟩
          replace hC1 := Lib.hid (((Chg.refl [] w).drewN nq).trans hC1)
          go_wp2_with fail
          refine (check_any p (by omega) _).mono ?_
          rintro e w4 ⟨rfl, hC2⟩
          rw [hE.out]
          replace hC1 := Lib.hid (hC1.out.trans hC2)
          clear hC2 hE
          go_wp2_with fail
          refine (match_is p t p.data.toList T ths rfl hT.out (by omega) (by omega) hpp.out ok hok.out _).mono ?_
          rintro e w5 ⟨rfl, hD1⟩
          go_wp2_with fail
          refine (match_is _ _ (p.data.toList ++ [42]) (T ++ M) (ths ++ [.any]) (by rw [app_list]) (by rw [app_list, hT.out, hM.out]) (by rw [List.length_append]; simp only [List.length_cons, List.length_nil]; omega) (by rw [List.length_append]; omega) (parse_app hpp.out parse_any1) a ha.out _).mono ?_
          rintro e w6 ⟨rfl, hD2⟩
          go_wp2_with fail
          refine (match_is _ _ (p.data.toList ++ [63]) (T ++ [120]) (ths ++ [.one]) (by rw [app_list]) (by rw [app_list, hT.out]) (by rw [List.length_append]; simp only [List.length_cons, List.length_nil]; omega) (by rw [List.length_append]; simp only [List.length_cons, List.length_nil]; omega) (parse_app hpp.out parse_one1) ok hb.out _).mono ?_
          rintro e w7 ⟨rfl, hD3⟩
          go_wp2_with fail
          refine (match_is _ _ ([42] ++ p.data.toList) (M ++ T) (.any :: ths) (by rw [app_list]) (by rw [app_list, hT.out, hM.out]) (by rw [List.length_append]; simp only [List.length_cons, List.length_nil]; omega) (by rw [List.length_append]; omega) (parse_app parse_any1 hpp.out) c hc.out _).mono ?_
          rintro e w8 ⟨rfl, hD4⟩
          cases ok with
          | true =>
            obtain ⟨rfl, rfl⟩ := hac.out rfl
            go_wp2_with fail
            go_ret
            exact ⟨rfl, ((((hC1.out.trans hD1.out).trans hD2.out).trans hD3.out).trans hD4.out).below⟩
          | false =>
            go_wp2_with fail
            go_ret
            exact ⟨rfl, ((((hC1.out.trans hD1.out).trans hD2.out).trans hD3.out).trans hD4.out).below⟩
        · obtain ⟨T, hT⟩ : ∃ T, t.data.toList = T := ⟨_, rfl⟩
          have hT40 : T.length ≤ 40 := by rw [← hT]; exact by rw [← size_list]; exact ht
          obtain ⟨M, hM⟩ : ∃ M, (m.extract 0 40).data.toList = M := ⟨_, rfl⟩
          have hM40 : M.length ≤ 40 := by rw [← hM]; exact hs40 _ hm
          replace hT := Lib.hid hT
          replace hM := Lib.hid hM
          obtain ⟨ok, hok⟩ : ∃ ok, Like ths T = ok := ⟨_, rfl⟩
          obtain ⟨a, ha⟩ : ∃ a, Like (ths ++ [.any]) (T ++ M) = a := ⟨_, rfl⟩
          obtain ⟨c, hc⟩ : ∃ c, Like (.any :: ths) (M ++ T) = c := ⟨_, rfl⟩
          have hb : Like (ths ++ [.one]) (T ++ [120]) = ok := (one_behind ths T 120).trans hok
          have hac : ok = true → a = true ∧ c = true := fun h => ⟨by rw [← ha]; exact more_behind M (hok.trans h), by rw [← hc]; exact more_ahead M (hok.trans h)⟩
          replace hok := Lib.hid hok
          replace ha := Lib.hid ha
          replace hc := Lib.hid hc
          replace hb := Lib.hid hb
          replace hac := Lib.hid hac
          clear hs40
          go_enter Try.func7, Try.ntmps7
          go_wp2_with fail
          go_quiet (fail)
          go_wp2_with fail
          refine (alive_any _).mono ?_
          rintro e w3 ⟨rfl, hC1⟩
          replace hC1 := Lib.hid (((Chg.refl [] w).drewN nq).trans hC1)
          go_wp2_with fail
          refine (check_any p (by omega) _).mono ?_
          rintro e w4 ⟨rfl, hC2⟩
          rw [hE.out]
          replace hC1 := Lib.hid (hC1.out.trans hC2)
          clear hC2 hE
          go_wp2_with fail
          refine (match_is p t p.data.toList T ths rfl hT.out (by omega) (by omega) hpp.out ok hok.out _).mono ?_
          rintro e w5 ⟨rfl, hD1⟩
          go_wp2_with fail
          refine (match_is _ _ (p.data.toList ++ [42]) (T ++ M) (ths ++ [.any]) (by rw [app_list]) (by rw [app_list, hT.out, hM.out]) (by rw [List.length_append]; simp only [List.length_cons, List.length_nil]; omega) (by rw [List.length_append]; omega) (parse_app hpp.out parse_any1) a ha.out _).mono ?_
          rintro e w6 ⟨rfl, hD2⟩
          go_wp2_with fail
          refine (match_is _ _ (p.data.toList ++ [63]) (T ++ [120]) (ths ++ [.one]) (by rw [app_list]) (by rw [app_list, hT.out]) (by rw [List.length_append]; simp only [List.length_cons, List.length_nil]; omega) (by rw [List.length_append]; simp only [List.length_cons, List.length_nil]; omega) (parse_app hpp.out parse_one1) ok hb.out _).mono ?_
          rintro e w7 ⟨rfl, hD3⟩
          go_wp2_with fail
          refine (match_is _ _ ([42] ++ p.data.toList) (M ++ T) (.any :: ths) (by rw [app_list]) (by rw [app_list, hT.out, hM.out]) (by rw [List.length_append]; simp only [List.length_cons, List.length_nil]; omega) (by rw [List.length_append]; omega) (parse_app parse_any1 hpp.out) c hc.out _).mono ?_
          rintro e w8 ⟨rfl, hD4⟩
          cases ok with
          | true =>
            obtain ⟨rfl, rfl⟩ := hac.out rfl
            go_wp2_with fail
            go_ret
            exact ⟨rfl, ((((hC1.out.trans hD1.out).trans hD2.out).trans hD3.out).trans hD4.out).below⟩
          | false =>
            go_wp2_with fail
            go_ret
            exact ⟨rfl, ((((hC1.out.trans hD1.out).trans hD2.out).trans hD3.out).trans hD4.out).below⟩
      · by_cases hm : m.size ≤ 40
        · obtain ⟨T, hT⟩ : ∃ T, (t.extract 0 40).data.toList = T := ⟨_, rfl⟩
          have hT40 : T.length ≤ 40 := by rw [← hT]; exact hs40 _ ht
          obtain ⟨M, hM⟩ : ∃ M, m.data.toList = M := ⟨_, rfl⟩
          have hM40 : M.length ≤ 40 := by rw [← hM]; exact by rw [← size_list]; exact hm
          replace hT := Lib.hid hT
          replace hM := Lib.hid hM
          obtain ⟨ok, hok⟩ : ∃ ok, Like ths T = ok := ⟨_, rfl⟩
          obtain ⟨a, ha⟩ : ∃ a, Like (ths ++ [.any]) (T ++ M) = a := ⟨_, rfl⟩
          obtain ⟨c, hc⟩ : ∃ c, Like (.any :: ths) (M ++ T) = c := ⟨_, rfl⟩
          have hb : Like (ths ++ [.one]) (T ++ [120]) = ok := (one_behind ths T 120).trans hok
          have hac : ok = true → a = true ∧ c = true := fun h => ⟨by rw [← ha]; exact more_behind M (hok.trans h), by rw [← hc]; exact more_ahead M (hok.trans h)⟩
          replace hok := Lib.hid hok
          replace ha := Lib.hid ha
          replace hc := Lib.hid hc
          replace hb := Lib.hid hb
          replace hac := Lib.hid hac
          clear hs40
          go_enter Try.func7, Try.ntmps7
          go_wp2_with fail
          go_quiet (fail)
          go_wp2_with fail
          refine (alive_any _).mono ?_
          rintro e w3 ⟨rfl, hC1⟩
          replace hC1 := Lib.hid (((Chg.refl [] w).drewN nq).trans hC1)
          go_wp2_with fail
          refine (check_any p (by omega) _).mono ?_
          rintro e w4 ⟨rfl, hC2⟩
          rw [hE.out]
          replace hC1 := Lib.hid (hC1.out.trans hC2)
          clear hC2 hE
          go_wp2_with fail
          refine (match_is p (t.extract 0 40) p.data.toList T ths rfl hT.out (by omega) (by omega) hpp.out ok hok.out _).mono ?_
          rintro e w5 ⟨rfl, hD1⟩
          go_wp2_with fail
          refine (match_is _ _ (p.data.toList ++ [42]) (T ++ M) (ths ++ [.any]) (by rw [app_list]) (by rw [app_list, hT.out, hM.out]) (by rw [List.length_append]; simp only [List.length_cons, List.length_nil]; omega) (by rw [List.length_append]; omega) (parse_app hpp.out parse_any1) a ha.out _).mono ?_
          rintro e w6 ⟨rfl, hD2⟩
          go_wp2_with fail
          refine (match_is _ _ (p.data.toList ++ [63]) (T ++ [120]) (ths ++ [.one]) (by rw [app_list]) (by rw [app_list, hT.out]) (by rw [List.length_append]; simp only [List.length_cons, List.length_nil]; omega) (by rw [List.length_append]; simp only [List.length_cons, List.length_nil]; omega) (parse_app hpp.out parse_one1) ok hb.out _).mono ?_
          rintro e w7 ⟨rfl, hD3⟩
          go_wp2_with fail
          refine (match_is _ _ ([42] ++ p.data.toList) (M ++ T) (.any :: ths) (by rw [app_list]) (by rw [app_list, hT.out, hM.out]) (by rw [List.length_append]; simp only [List.length_cons, List.length_nil]; omega) (by rw [List.length_append]; omega) (parse_app parse_any1 hpp.out) c hc.out _).mono ?_
          rintro e w8 ⟨rfl, hD4⟩
          cases ok with
          | true =>
            obtain ⟨rfl, rfl⟩ := hac.out rfl
            go_wp2_with fail
            go_ret
            exact ⟨rfl, ((((hC1.out.trans hD1.out).trans hD2.out).trans hD3.out).trans hD4.out).below⟩
          | false =>
            go_wp2_with fail
            go_ret
            exact ⟨rfl, ((((hC1.out.trans hD1.out).trans hD2.out).trans hD3.out).trans hD4.out).below⟩
        · obtain ⟨T, hT⟩ : ∃ T, (t.extract 0 40).data.toList = T := ⟨_, rfl⟩
          have hT40 : T.length ≤ 40 := by rw [← hT]; exact hs40 _ ht
          obtain ⟨M, hM⟩ : ∃ M, (m.extract 0 40).data.toList = M := ⟨_, rfl⟩
          have hM40 : M.length ≤ 40 := by rw [← hM]; exact hs40 _ hm
          replace hT := Lib.hid hT
          replace hM := Lib.hid hM
          obtain ⟨ok, hok⟩ : ∃ ok, Like ths T = ok := ⟨_, rfl⟩
          obtain ⟨a, ha⟩ : ∃ a, Like (ths ++ [.any]) (T ++ M) = a := ⟨_, rfl⟩
          obtain ⟨c, hc⟩ : ∃ c, Like (.any :: ths) (M ++ T) = c := ⟨_, rfl⟩
          have hb : Like (ths ++ [.one]) (T ++ [120]) = ok := (one_behind ths T 120).trans hok
          have hac : ok = true → a = true ∧ c = true := fun h => ⟨by rw [← ha]; exact more_behind M (hok.trans h), by rw [← hc]; exact more_ahead M (hok.trans h)⟩
          replace hok := Lib.hid hok
          replace ha := Lib.hid ha
          replace hc := Lib.hid hc
          replace hb := Lib.hid hb
          replace hac := Lib.hid hac
          clear hs40
          go_enter Try.func7, Try.ntmps7
          go_wp2_with fail
          go_quiet (fail)
          go_wp2_with fail
          refine (alive_any _).mono ?_
          rintro e w3 ⟨rfl, hC1⟩
          replace hC1 := Lib.hid (((Chg.refl [] w).drewN nq).trans hC1)
          go_wp2_with fail
          refine (check_any p (by omega) _).mono ?_
          rintro e w4 ⟨rfl, hC2⟩
          rw [hE.out]
          replace hC1 := Lib.hid (hC1.out.trans hC2)
          clear hC2 hE
          go_wp2_with fail
          refine (match_is p (t.extract 0 40) p.data.toList T ths rfl hT.out (by omega) (by omega) hpp.out ok hok.out _).mono ?_
          rintro e w5 ⟨rfl, hD1⟩
          go_wp2_with fail
          refine (match_is _ _ (p.data.toList ++ [42]) (T ++ M) (ths ++ [.any]) (by rw [app_list]) (by rw [app_list, hT.out, hM.out]) (by rw [List.length_append]; simp only [List.length_cons, List.length_nil]; omega) (by rw [List.length_append]; omega) (parse_app hpp.out parse_any1) a ha.out _).mono ?_
          rintro e w6 ⟨rfl, hD2⟩
          go_wp2_with fail
          refine (match_is _ _ (p.data.toList ++ [63]) (T ++ [120]) (ths ++ [.one]) (by rw [app_list]) (by rw [app_list, hT.out]) (by rw [List.length_append]; simp only [List.length_cons, List.length_nil]; omega) (by rw [List.length_append]; simp only [List.length_cons, List.length_nil]; omega) (parse_app hpp.out parse_one1) ok hb.out _).mono ?_
          rintro e w7 ⟨rfl, hD3⟩
          go_wp2_with fail
          refine (match_is _ _ ([42] ++ p.data.toList) (M ++ T) (.any :: ths) (by rw [app_list]) (by rw [app_list, hT.out, hM.out]) (by rw [List.length_append]; simp only [List.length_cons, List.length_nil]; omega) (by rw [List.length_append]; omega) (parse_app parse_any1 hpp.out) c hc.out _).mono ?_
          rintro e w8 ⟨rfl, hD4⟩
          cases ok with
          | true =>
            obtain ⟨rfl, rfl⟩ := hac.out rfl
            go_wp2_with fail
            go_ret
            exact ⟨rfl, ((((hC1.out.trans hD1.out).trans hD2.out).trans hD3.out).trans hD4.out).below⟩
          | false =>
            go_wp2_with fail
            go_ret
            exact ⟨rfl, ((((hC1.out.trans hD1.out).trans hD2.out).trans hD3.out).trans hD4.out).below⟩
  · clear hs40 hP
    by_cases ht : t.size ≤ 40 <;> by_cases hm : m.size ≤ 40
    all_goals
      go_enter Try.func7, Try.ntmps7
      go_wp2_with fail
      go_quiet (fail)
      go_wp2_with fail
      refine (alive_any _).mono ?_
      rintro e w3 ⟨rfl, hC1⟩
      replace hC1 := Lib.hid (((Chg.refl [] w).drewN nq).trans hC1)
      go_wp2_with fail
      refine (alive_any _).mono ?_
      rintro e w5 ⟨rfl, hC2⟩
      replace hC1 := Lib.hid (hC1.out.trans hC2)
      clear hC2
      go_wp2_with fail
      go_ret
      exact ⟨rfl, hC1.out.below⟩
end Go.Proofs.Ytjocfajnabkhaaa
