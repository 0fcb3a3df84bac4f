/- The laws GlobSpans and GlobMatches, walked. No condition. -/
import Derived.Test.YtjocfajnabkhaaaRefSpan
import Derived.Test.YtjocfajnabkhaaaReads
set_option linter.unusedVariables false
set_option linter.unusedSimpArgs false
namespace Go.Proofs.Ytjocfajnabkhaaa
open Go.RowKit Glob
theorem great_13 (p t : ByteArray) (w0 : p.size ≤ maxLen) (w1 : t.size ≤ maxLen) (b : Bool) (hb : (120 < t.size ∧ b = true) ∨ (t.size ≤ 120 ∧ 60 < p.size ∧ p.size ≤ 1024 ∧ b = true) ∨ (t.size ≤ 120 ∧ p.size ≤ 60 ∧ b = false) ∨ (t.size ≤ 120 ∧ 1024 < p.size ∧ b = false)) (w : World) :
    Calls Try.prog 11 #[.string p, .string t] w fun e w' => e = .returned (.bool b) ∧ w = w' := by
  have w0' : p.size ≤ 9223372036854775807 := by unfold maxLen at w0; omega
  have w1' : t.size ≤ 9223372036854775807 := by unfold maxLen at w1; omega
  clear w0 w1
  rcases hb with ⟨h1, rfl⟩ | ⟨h1, h2, h3, rfl⟩ | ⟨h1, h2, rfl⟩ | ⟨h1, h2, rfl⟩
  all_goals
    go_enter Try.func11, Try.ntmps11
    go_wp2
    go_ret
    first | exact ⟨rfl, rfl⟩ | exact ⟨by simp; omega, rfl⟩
theorem rthings_long (s : ByteArray) (h : 1024 < s.size) (hm : s.size ≤ 9223372036854775807) (w : World) :
    Calls Try.prog 12 #[.string s] w fun e w' => e = .returned (.tuple #[.slice none 0 0, .int .i64 6]) ∧ Hid (Chg [] w w') := by
  refine (things_ref s hm w).mono ?_
  rintro e w' ⟨hC, h1 | h1 | h1⟩
  · exact ⟨h1.2, hC⟩
  · have := h1.1; rw [Array.length_toList] at this; have e : s.data.size = s.size := rfl; omega
  · have := h1.1; rw [Array.length_toList] at this; have e : s.data.size = s.size := rfl; omega
theorem rthings_none (s : ByteArray) (h : s.size ≤ 1024) (hp : parse s.data.toList = none) (w : World) :
    Calls Try.prog 12 #[.string s] w fun e w' => e = .returned (.tuple #[.slice none 0 0, .int .i64 4]) ∧ Hid (Chg [] w w') := by
  refine (things_ref s (by omega) w).mono ?_
  rintro e w' ⟨hC, h1 | h1 | h1⟩
  · have := h1.1; rw [Array.length_toList] at this; have e : s.data.size = s.size := rfl; omega
  · exact ⟨h1.2.2, hC⟩
  · obtain ⟨_, ths, A, c, h2, _⟩ := h1; rw [hp] at h2; cases h2
theorem rthings_some (s : ByteArray) (h : s.size ≤ 1024) (ths : List Th) (hp : parse s.data.toList = some ths) (w : World) :
    Calls Try.prog 12 #[.string s] w fun e w' => ∃ A c n, e = .returned (.tuple #[.slice A n c, .int .i64 0]) ∧ Hid (ThsAt w' A ths) ∧ Hid (ths.length = n) ∧ Hid (n ≤ 1024) ∧ Hid (Chg [] w w') := by
  refine (things_ref s (by omega) w).mono ?_
  rintro e w' ⟨hC, h1 | h1 | h1⟩
  · have := h1.1; rw [Array.length_toList] at this; have e : s.data.size = s.size := rfl; omega
  · have := h1.2.1; rw [hp] at this; cases this
  · obtain ⟨h0, ths', A, c, h2, h3, h4, h5⟩ := h1
    rw [hp] at h2; cases h2
    exact ⟨A, c, _, h3, ThsAt.of_sl h4, rfl, (show ths.length ≤ 1024 by omega), hC⟩
set_option maxRecDepth 100000 in
set_option maxHeartbeats 2000000 in
theorem globMatches_walk (p t : ByteArray) (w0 : p.size ≤ maxLen) (w1 : t.size ≤ maxLen) (w : World) :
    Calls Try.prog 5 #[.string p, .string t] w fun e w' => e = .returned (.bool true) ∧ Below w.heap.size w w' := by
  have w0' : p.size ≤ 9223372036854775807 := by unfold maxLen at w0; omega
  have w1' : t.size ≤ 9223372036854775807 := by unfold maxLen at w1; omega
  have hor : (120 < t.size) ∨ (t.size ≤ 120 ∧ 60 < p.size ∧ p.size ≤ 1024) ∨ (t.size ≤ 120 ∧ p.size ≤ 60) ∨ (t.size ≤ 120 ∧ 1024 < p.size) := by omega
  have hgt := fun b h w => great_13 p t w0 w1 b h w
  replace hgt := Lib.hid hgt
  clear w0 w1
  have hP := size_list p
  rcases hor with h | h | ⟨h1, h2⟩ | ⟨h1, h2⟩
  · go_enter Try.func5, Try.ntmps5
    go_wp2_with fail
    refine (alive_any _).mono ?_
    rintro e w1 ⟨rfl, hC1⟩
    replace hC1 := Lib.hid hC1
    go_wp2_with fail
    refine (hgt.out true (.inl ⟨h, rfl⟩) _).mono ?_
    rintro e w' ⟨rfl, rfl⟩
    go_wp2_with fail
    refine (alive_any _).mono ?_
    rintro e w2 ⟨rfl, hC2⟩
    replace hC2 := Lib.hid (hC1.out.trans hC2)
    go_wp2_with fail
    go_ret
    exact ⟨rfl, hC2.out.below⟩
  · go_enter Try.func5, Try.ntmps5
    go_wp2_with fail
    refine (alive_any _).mono ?_
    rintro e w1 ⟨rfl, hC1⟩
    replace hC1 := Lib.hid hC1
    go_wp2_with fail
    refine (hgt.out true (.inr (.inl ⟨h.1, h.2.1, h.2.2, rfl⟩)) _).mono ?_
    rintro e w' ⟨rfl, rfl⟩
    go_wp2_with fail
    refine (alive_any _).mono ?_
    rintro e w2 ⟨rfl, hC2⟩
    replace hC2 := Lib.hid (hC1.out.trans hC2)
    go_wp2_with fail
    go_ret
    exact ⟨rfl, hC2.out.below⟩
  · cases hpp : parse p.data.toList with
    | none =>
      have hE : errOf p.data.toList = 4 := errOf_none (by omega) hpp
      have hM : matchOf p.data.toList t.data.toList = false := matchOf_none hpp
      have hr := Lib.hid (rthings_none p (by omega) hpp)
      have hma := Lib.hid (match_any p t (by omega) (by omega))
      rw [hE, hM] at hma
      have hch := Lib.hid (check_any p (by omega))
      rw [hE] at hch
      clear hE hM hP hpp
      go_enter Try.func5, Try.ntmps5
      go_wp2_with fail
      refine (alive_any _).mono ?_
      rintro e w1 ⟨rfl, hC1⟩
      replace hC1 := Lib.hid hC1
      go_wp2_with fail
      refine (hgt.out false (.inr (.inr (.inl ⟨h1, h2, rfl⟩))) _).mono ?_
      rintro e w' ⟨rfl, rfl⟩
      go_wp2_with fail
      refine (hr.out _).mono ?_
      rintro e w2 ⟨rfl, hC2⟩
      replace hC2 := Lib.hid (hC1.out.trans hC2.out)
      go_wp2_with fail
      refine (hma.out _).mono ?_
      rintro e w3 ⟨rfl, hC3⟩
      replace hC3 := Lib.hid (hC2.out.trans hC3)
      go_wp2_with fail
      refine (hch.out _).mono ?_
      rintro e w4 ⟨rfl, hC4⟩
      replace hC4 := Lib.hid (hC3.out.trans hC4)
      go_wp2_with fail
      go_ret
      exact ⟨rfl, hC4.out.below⟩
    | some ths =>
      have hE : errOf p.data.toList = 0 := errOf_some (by omega) hpp
      obtain ⟨b, hb⟩ : ∃ b, Like ths t.data.toList = b := ⟨_, rfl⟩
      have hM : matchOf p.data.toList t.data.toList = b := by rw [matchOf_some (by omega) hpp, hb]
      have hr := Lib.hid (rthings_some p (by omega) ths hpp)
      have hma := Lib.hid (match_any p t (by omega) (by omega))
      rw [hE, hM] at hma
      have hch := Lib.hid (check_any p (by omega))
      rw [hE] at hch
      have hlk := fun A n c hn hn2 w h => like_ref t (by omega) A n c ths hn hn2 w h
      rw [hb] at hlk
      replace hlk := Lib.hid hlk
      clear hE hM hP hpp hb
      go_enter Try.func5, Try.ntmps5
      go_wp2_with fail
      refine (alive_any _).mono ?_
      rintro e w1 ⟨rfl, hC1⟩
      replace hC1 := Lib.hid hC1
      go_wp2_with fail
      refine (hgt.out false (.inr (.inr (.inl ⟨h1, h2, rfl⟩))) _).mono ?_
      rintro e w' ⟨rfl, rfl⟩
      go_wp2_with fail
      refine (hr.out _).mono ?_
      rintro e w2 ⟨A, c, n, rfl, hT, hn, hn2, hC2⟩
      replace hC2 := Lib.hid (hC1.out.trans hC2.out)
      go_wp2_with fail
      refine (hma.out _).mono ?_
      rintro e w3 ⟨rfl, hC3⟩
      replace hT := Lib.hid (hT.out.chg hC3)
      replace hC3 := Lib.hid (hC2.out.trans hC3)
      go_wp2_with fail
      refine (hch.out _).mono ?_
      rintro e w4 ⟨rfl, hC4⟩
      replace hT := Lib.hid (hT.out.chg hC4)
      replace hC4 := Lib.hid (hC3.out.trans hC4)
      go_wp2_with fail
      refine (hlk.out A n c hn.out (by have := hn2.out; omega) _ hT.out).mono ?_
      rintro e w5 ⟨rfl, hC5⟩
      replace hC5 := Lib.hid (hC4.out.trans hC5)
      cases b
      all_goals
        go_wp2_with fail
        go_ret
        exact ⟨rfl, hC5.out.below⟩
  · have hr := Lib.hid (rthings_long p h2 w0')
    have hma := Lib.hid (match_long p t h2 w0')
    have hch := Lib.hid (check_long p h2 w0')
    go_enter Try.func5, Try.ntmps5
    go_wp2_with fail
    refine (alive_any _).mono ?_
    rintro e w1 ⟨rfl, hC1⟩
    replace hC1 := Lib.hid hC1
    go_wp2_with fail
    refine (hgt.out false (.inr (.inr (.inr ⟨h1, h2, rfl⟩))) _).mono ?_
    rintro e w' ⟨rfl, rfl⟩
    go_wp2_with fail
    refine (hr.out _).mono ?_
    rintro e w2 ⟨rfl, hC2⟩
    replace hC2 := Lib.hid (hC1.out.trans hC2.out)
    go_wp2_with fail
    refine (hma.out _).mono ?_
    rintro e w' ⟨rfl, rfl⟩
    go_wp2_with fail
    refine (hch.out _).mono ?_
    rintro e w' ⟨rfl, rfl⟩
    go_wp2_with fail
    go_ret
    exact ⟨rfl, hC2.out.below⟩
set_option maxRecDepth 100000 in
set_option maxHeartbeats 2000000 in
theorem globSpans_walk (p t : ByteArray) (most : Int) (m1 : -9223372036854775808 ≤ most) (m2 : most ≤ 9223372036854775807) (w0 : p.size ≤ maxLen) (w1 : t.size ≤ maxLen) (w : World) :
    Calls Try.prog 3 #[.string p, .string t, .int .i64 most] w fun e w' => e = .returned (.bool true) ∧ Below w.heap.size w w' := by
  have w0' : p.size ≤ 9223372036854775807 := by unfold maxLen at w0; omega
  have w1' : t.size ≤ 9223372036854775807 := by unfold maxLen at w1; omega
  have hor : (120 < t.size) ∨ (t.size ≤ 120 ∧ 60 < p.size ∧ p.size ≤ 1024) ∨ (t.size ≤ 120 ∧ p.size ≤ 60) ∨ (t.size ≤ 120 ∧ 1024 < p.size) := by omega
  have hgt := fun b h w => great_13 p t w0 w1 b h w
  replace hgt := Lib.hid hgt
  clear w0 w1
  have hP := size_list p
  rcases hor with h | h | ⟨h1, h2⟩ | ⟨h1, h2⟩
  · go_enter Try.func3, Try.ntmps3
    go_wp2_with fail
    refine (alive_any _).mono ?_
    rintro e w1 ⟨rfl, hC1⟩
    replace hC1 := Lib.hid hC1
    go_wp2_with fail
    refine (hgt.out true (.inl ⟨h, rfl⟩) _).mono ?_
    rintro e w' ⟨rfl, rfl⟩
    go_wp2_with fail
    refine (alive_any _).mono ?_
    rintro e w2 ⟨rfl, hC2⟩
    replace hC2 := Lib.hid (hC1.out.trans hC2)
    go_wp2_with fail
    go_ret
    exact ⟨rfl, hC2.out.below⟩
  · go_enter Try.func3, Try.ntmps3
    go_wp2_with fail
    refine (alive_any _).mono ?_
    rintro e w1 ⟨rfl, hC1⟩
    replace hC1 := Lib.hid hC1
    go_wp2_with fail
    refine (hgt.out true (.inr (.inl ⟨h.1, h.2.1, h.2.2, rfl⟩)) _).mono ?_
    rintro e w' ⟨rfl, rfl⟩
    go_wp2_with fail
    refine (alive_any _).mono ?_
    rintro e w2 ⟨rfl, hC2⟩
    replace hC2 := Lib.hid (hC1.out.trans hC2)
    go_wp2_with fail
    go_ret
    exact ⟨rfl, hC2.out.below⟩
  · cases hpp : parse p.data.toList with
    | none =>
      have hr := Lib.hid (rthings_none p (by omega) hpp)
      have hsp := Lib.hid (span_none p t most (by omega) hpp)
      clear hP hpp
      go_enter Try.func3, Try.ntmps3
      go_wp2_with fail
      refine (alive_any _).mono ?_
      rintro e w1 ⟨rfl, hC1⟩
      replace hC1 := Lib.hid hC1
      go_wp2_with fail
      refine (hgt.out false (.inr (.inr (.inl ⟨h1, h2, rfl⟩))) _).mono ?_
      rintro e w' ⟨rfl, rfl⟩
      go_wp2_with fail
      refine (hr.out _).mono ?_
      rintro e w2 ⟨rfl, hC2⟩
      replace hC2 := Lib.hid (hC1.out.trans hC2.out)
      go_wp2_with fail
      refine (hsp.out _).mono ?_
      rintro e w3 ⟨rfl, hC3⟩
      replace hC3 := Lib.hid (hC2.out.trans hC3)
      go_wp2_with fail
      go_ret
      exact ⟨rfl, hC3.out.below⟩
    | some ths =>
      have hr := Lib.hid (rthings_some p (by omega) ths hpp)
      have hlk := Lib.hid (fun A n c hn hn2 w h => span_ref t (by omega) most m1 m2 A n c ths hn hn2 w h)
      have hTl := size_list t
      by_cases hneg : most < 0
      · have hsp := Lib.hid (span_neg p t most hneg (by omega) ths hpp)
        clear hP hpp
        go_enter Try.func3, Try.ntmps3
        go_wp2_with fail
        refine (alive_any _).mono ?_
        rintro e w1 ⟨rfl, hC1⟩
        replace hC1 := Lib.hid hC1
        go_wp2_with fail
        refine (hgt.out false (.inr (.inr (.inl ⟨h1, h2, rfl⟩))) _).mono ?_
        rintro e w' ⟨rfl, rfl⟩
        go_wp2_with fail
        refine (hr.out _).mono ?_
        rintro e w2 ⟨A, c, n, rfl, hT, hn, hn2, hC2⟩
        replace hC2 := Lib.hid (hC1.out.trans hC2.out)
        go_wp2_with fail
        refine (hsp.out _).mono ?_
        rintro e w3 ⟨rfl, hC3⟩
        replace hT := Lib.hid (hT.out.chg hC3)
        replace hC3 := Lib.hid (hC2.out.trans hC3)
        go_wp2_with fail
        refine (hlk.out A n c hn.out (by have := hn2.out; omega) _ hT.out).mono ?_
        rintro e w5 ⟨i, ok, rfl, hS, hC5⟩
        obtain ⟨rfl, rfl⟩ := span_neg_same hneg hS
        replace hC5 := Lib.hid (hC3.out.trans hC5)
        clear hS
        go_wp2_with fail
        go_ret
        exact ⟨rfl, hC5.out.below⟩
      · have hsp := Lib.hid (fun w => span_any p t (by omega) (by omega) most (by omega) (by omega) w ths hpp)
        clear hP hpp
        go_enter Try.func3, Try.ntmps3
        go_wp2_with fail
        refine (alive_any _).mono ?_
        rintro e w1 ⟨rfl, hC1⟩
        replace hC1 := Lib.hid hC1
        go_wp2_with fail
        refine (hgt.out false (.inr (.inr (.inl ⟨h1, h2, rfl⟩))) _).mono ?_
        rintro e w' ⟨rfl, rfl⟩
        go_wp2_with fail
        refine (hr.out _).mono ?_
        rintro e w2 ⟨A, c, n, rfl, hT, hn, hn2, hC2⟩
        replace hC2 := Lib.hid (hC1.out.trans hC2.out)
        go_wp2_with fail
        refine (hsp.out _).mono ?_
        rintro e w3 ⟨i, ok, rfl, hS3, hC3⟩
        replace hS3 := Lib.hid hS3
        replace hT := Lib.hid (hT.out.chg hC3)
        replace hC3 := Lib.hid (hC2.out.trans hC3)
        go_wp2_with fail
        refine (hlk.out A n c hn.out (by have := hn2.out; omega) _ hT.out).mono ?_
        rintro e w5 ⟨i', ok', rfl, hS, hC5⟩
        obtain ⟨rfl, rfl⟩ := span_same (by omega) (by rw [← hTl]; exact hS3.out) hS
        replace hC5 := Lib.hid (hC3.out.trans hC5)
        clear hS hS3
        cases ok
        all_goals
          go_wp2_with fail
          go_ret
          exact ⟨rfl, hC5.out.below⟩
  · have hr := Lib.hid (rthings_long p h2 w0')
    have hsp := Lib.hid (span_long p t most h2 w0')
    go_enter Try.func3, Try.ntmps3
    go_wp2_with fail
    refine (alive_any _).mono ?_
    rintro e w1 ⟨rfl, hC1⟩
    replace hC1 := Lib.hid hC1
    go_wp2_with fail
    refine (hgt.out false (.inr (.inr (.inr ⟨h1, h2, rfl⟩))) _).mono ?_
    rintro e w' ⟨rfl, rfl⟩
    go_wp2_with fail
    refine (hr.out _).mono ?_
    rintro e w2 ⟨rfl, hC2⟩
    replace hC2 := Lib.hid (hC1.out.trans hC2.out)
    go_wp2_with fail
    refine (hsp.out _).mono ?_
    rintro e w' ⟨rfl, rfl⟩
    go_wp2_with fail
    go_ret
    exact ⟨rfl, hC2.out.below⟩
theorem int_of_reads {w : World} {u : Value} {d : Dt} (h : Reads w (.int .i64) u d) : ∃ n : Int, u = .int .i64 n ∧ -9223372036854775808 ≤ n ∧ n ≤ 9223372036854775807 := by
  cases h with
  | int h =>
    rename_i n
    have h' : IntKind.i64.min ≤ n ∧ n ≤ IntKind.i64.max := by simpa [Lit.wf] using h
    have m1 : IntKind.i64.min = -9223372036854775808 := rfl
    have m2 : IntKind.i64.max = 9223372036854775807 := rfl
    rw [m1, m2] at h'
    exact ⟨n, rfl, h'⟩
theorem globMatches_row (v0 : Value) (d0 : Dt) (v1 : Value) (d1 : Dt) (w : World) (h0 : Reads w .str v0 d0) (h1 : Reads w .str v1 d1) :
    Calls Try.prog 5 #[v0, v1] w fun e w' => e = .returned (.bool true) ∧ Below w.heap.size w w' := by
  cases h0 with
  | str m0 =>
    cases h1 with
    | str m1 => exact globMatches_walk _ _ m0 m1 w
theorem globSpans_row (v0 : Value) (d0 : Dt) (v1 : Value) (d1 : Dt) (v2 : Value) (d2 : Dt) (w : World) (h0 : Reads w .str v0 d0) (h1 : Reads w .str v1 d1) (h2 : Reads w (.int .i64) v2 d2) :
    Calls Try.prog 3 #[v0, v1, v2] w fun e w' => e = .returned (.bool true) ∧ Below w.heap.size w w' := by
  obtain ⟨n, rfl, b1, b2⟩ := int_of_reads h2
  cases h0 with
  | str m0 =>
    cases h1 with
    | str m1 => exact globSpans_walk _ _ n b1 b2 m0 m1 w
end Go.Proofs.Ytjocfajnabkhaaa
