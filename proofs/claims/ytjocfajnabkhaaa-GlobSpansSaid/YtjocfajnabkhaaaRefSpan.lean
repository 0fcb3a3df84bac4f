/- Contracts: the reference's Span of layer 13; glob's Match, Check, Span of patterns that are too long, or wrong. Conditions: as they state. -/
import Derived.Test.YtjocfajnabkhaaaRefLike
set_option linter.unusedVariables false
set_option linter.unusedSimpArgs false
namespace Go.Proofs.Ytjocfajnabkhaaa
open Go.RowKit Glob
theorem things_long (s : ByteArray) (h : 1024 < s.size) (hm : s.size ≤ 9223372036854775807) (w : World) :
    Calls Try.prog 21 #[.string s] w fun e w' => e = .returned (.tuple #[.slice none 0 0, .int .i64 6]) ∧ w = w' := by
  go_enter Try.func21, Try.ntmps21
  go_wp2
  go_ret2
  exact ⟨rfl, rfl⟩
theorem match_long (s t : ByteArray) (h : 1024 < s.size) (hm : s.size ≤ 9223372036854775807) (w : World) :
    Calls Try.prog 15 #[.string s, .string t] w fun e w' => e = .returned (.tuple #[.bool false, .int .i64 6]) ∧ w = w' := by
  go_enter Try.func15, Try.ntmps15
  go_wp2_with fail
  refine (things_long s h hm _).mono ?_
  rintro e w' ⟨rfl, rfl⟩
  go_wp2_with fail
  go_ret2
  exact ⟨rfl, rfl⟩
theorem check_long (s : ByteArray) (h : 1024 < s.size) (hm : s.size ≤ 9223372036854775807) (w : World) :
    Calls Try.prog 16 #[.string s] w fun e w' => e = .returned (.int .i64 6) ∧ w = w' := by
  go_enter Try.func16, Try.ntmps16
  go_wp2_with fail
  refine (things_long s h hm _).mono ?_
  rintro e w' ⟨rfl, rfl⟩
  go_wp2_with fail
  go_ret
  exact ⟨rfl, rfl⟩
theorem span_long (s t : ByteArray) (most : Int) (h : 1024 < s.size) (hm : s.size ≤ 9223372036854775807) (w : World) :
    Calls Try.prog 13 #[.string s, .string t, .int .i64 most] w fun e w' => e = .returned (.tuple #[.int .i64 0, .bool false, .int .i64 6]) ∧ w = w' := by
  go_enter Try.func13, Try.ntmps13
  go_wp2_with fail
  refine (things_long s h hm _).mono ?_
  rintro e w' ⟨rfl, rfl⟩
  go_wp2_with fail
  go_ret3
  exact ⟨rfl, rfl⟩
theorem span_none (s t : ByteArray) (most : Int) (hs : s.size ≤ 1024) (hp : parse s.data.toList = none) (w : World) :
    Calls Try.prog 13 #[.string s, .string t, .int .i64 most] w fun e w' => e = .returned (.tuple #[.int .i64 0, .bool false, .int .i64 4]) ∧ Chg [] w w' := by
  have hsz : s.data.toList.length = s.size := by rw [Array.length_toList]; rfl
  have hth := Lib.hid (things_any s (by omega) w)
  go_enter Try.func13, Try.ntmps13
  go_wp2_with fail
  refine hth.out.mono ?_
  rintro e w1 ⟨hC, h⟩
  clear hth
  replace hC := Lib.hid hC
  rcases h with ⟨h1, rfl⟩ | ⟨h1, h2, rfl⟩ | ⟨h1, ths', A, c, cs, hp', rfl, hS, hT, hlen⟩
  · omega
  · clear hp h2
    go_wp2_with fail
    go_ret3
    exact ⟨rfl, hC.out⟩
  · rw [hp] at hp'; cases hp'
theorem span_neg (s t : ByteArray) (most : Int) (hmost : most < 0) (hs : s.size ≤ 1024) (ths : List Th) (hp : parse s.data.toList = some ths) (w : World) :
    Calls Try.prog 13 #[.string s, .string t, .int .i64 most] w fun e w' => e = .returned (.tuple #[.int .i64 0, .bool false, .int .i64 0]) ∧ Chg [] w w' := by
  have hsz : s.data.toList.length = s.size := by rw [Array.length_toList]; rfl
  have hth := Lib.hid (things_any s (by omega) w)
  go_enter Try.func13, Try.ntmps13
  go_wp2_with fail
  refine hth.out.mono ?_
  rintro e w1 ⟨hC, h⟩
  clear hth
  replace hC := Lib.hid hC
  rcases h with ⟨h1, rfl⟩ | ⟨h1, h2, rfl⟩ | ⟨h1, ths', A, c, cs, hp', rfl, hS, hT, hlen⟩
  · omega
  · rw [hp] at h2; cases h2
  · clear hp hp' hS hT hlen
    go_wp2_with fail
    go_ret3
    exact ⟨rfl, hC.out⟩
/-- What the reference's `Span` tells. -/
def RSpanIs (ths : List Th) (t : List UInt8) (most : Int) (i : Int) (ok : Bool) : Prop :=
  (ok = true ∧ ∃ k : Nat, i = k ∧ (t.length : Int) - k ≤ most ∧ k ≤ t.length ∧ Like ths (t.drop k) = true ∧ ∀ j : Nat, (t.length : Int) - j ≤ most → j < k → Like ths (t.drop j) = false)
  ∨ (ok = false ∧ i = 0 ∧ ∀ j : Nat, (t.length : Int) - j ≤ most → j ≤ t.length → Like ths (t.drop j) = false)
theorem span_same {ths : List Th} {t : List UInt8} {most : Int} {i i' : Int} {ok ok' : Bool} (h0 : 0 ≤ most) (h : SpanIs ths t (t.length - most.toNat) i ok) (h' : RSpanIs ths t most i' ok') : i = i' ∧ ok = ok' := by
  rcases h with ⟨rfl, k, rfl, a1, a2, a3, a4⟩ | ⟨rfl, rfl, a4⟩ <;> rcases h' with ⟨rfl, k', rfl, b1, b2, b3, b4⟩ | ⟨rfl, rfl, b4⟩
  · have : k = k' := by
      rcases Nat.lt_trichotomy k k' with h | h | h
      · have := b4 k (by omega) h; rw [a3] at this; cases this
      · exact h
      · have := a4 k' (by omega) h; rw [b3] at this; cases this
    exact ⟨by rw [this], rfl⟩
  · have := b4 k (by omega) a2; rw [a3] at this; cases this
  · have := a4 k' (by omega) b2; rw [b3] at this; cases this
  · exact ⟨rfl, rfl⟩
theorem span_neg_same {ths : List Th} {t : List UInt8} {most : Int} {i' : Int} {ok' : Bool} (h0 : most < 0) (h' : RSpanIs ths t most i' ok') : i' = 0 ∧ ok' = false := by
  rcases h' with ⟨rfl, k', rfl, b1, b2, b3, b4⟩ | ⟨rfl, rfl, b4⟩
  · omega
  · exact ⟨rfl, rfl⟩
set_option maxRecDepth 100000 in
set_option maxHeartbeats 2000000 in
theorem span_ref (t : ByteArray) (ht : t.size ≤ 1000000) (most : Int) (m1 : -9223372036854775808 ≤ most) (m2 : most ≤ 9223372036854775807) (A : Option Addr) (n c : Nat) (ths : List Th) (hn : ths.length = n) (hn2 : n ≤ 1000000) (w : World) (h : ThsAt w A ths) :
    Calls Try.prog 14 #[.slice A n c, .string t, .int .i64 most] w fun e w' => ∃ i ok, e = .returned (.tuple #[.int .i64 i, .bool ok]) ∧ RSpanIs ths t.data.toList most i ok ∧ Chg [] w w' := by
  obtain ⟨tl, htl⟩ : ∃ tl, tl = t.data.toList := ⟨_, rfl⟩
  have hls : tl.length = t.size := by rw [htl, Array.length_toList]; rfl
  have hex : ∀ k, (t.extract k t.size).data.toList = tl.drop k := fun k => by rw [extract_list, ← htl, List.take_of_length_le (by omega)]
  rw [← htl]
  clear htl
  have hk : ∀ k W, Chg [] w W → Calls Try.prog 17 #[.slice A n c, .string (t.extract k t.size)] W fun e w' => e = .returned (.bool (Like ths (tl.drop k))) ∧ Chg [] w w' := fun k W hW => by
    rw [← hex k]
    refine (like_ref (t.extract k t.size) (by rw [ByteArray.size_extract]; omega) A n c ths hn hn2 W (h.chg hW)).mono ?_
    rintro e w' ⟨h1, h2⟩
    exact ⟨h1, hW.trans h2⟩
  replace hk := Lib.hid hk
  replace hls := Lib.hid hls
  clear h hex hn
  go_enter Try.func14, Try.ntmps14
  go_wp2_with fail
  go_loopw [8] (fun v wr => ∃ (k : Nat), v = .int .i64 k ∧ k ≤ t.size + 1 ∧ Hid (∀ j : Nat, (t.size : Int) - j ≤ most → j < k → Like ths (tl.drop j) = false) ∧ Hid (Chg [] w wr)) (fun v _ => t.size + 1 - (intOf v).toNat)
  case atStart => exact ⟨0, rfl, by omega, (show ∀ _, _ from fun j _ hj => absurd hj (by omega)), Chg.refl _ _⟩
  case round =>
    obtain ⟨k, rfl, hk1, hN, hC⟩ := hrel
    by_cases hlt : k ≤ t.size
    · have ew : IntKind.i64.wrap ((t.size : Int) - k) = (t.size : Int) - k := IntWalk.i64_in _ (by omega)
      have hor : (t.size : Int) - k ≤ most ∨ most < (t.size : Int) - k := by omega
      rcases hor with hm | hm
      · have hc := hk.out k wr hC.out
        cases hL : Like ths (tl.drop k) with
        | true =>
          rw [hL] at hc
          have hfin : RSpanIs ths tl most k true := .inl ⟨rfl, k, rfl, by rw [hls.out]; exact hm, by rw [hls.out]; exact hlt, hL, by rw [hls.out]; exact hN.out⟩
          replace hc := Lib.hid hc
          replace hfin := Lib.hid hfin
          clear hL hN hk
          go_wp2_with fail
          refine hc.out.mono ?_
          rintro e w2 ⟨rfl, hw2⟩
          clear hc
          replace hw2 := Lib.hid hw2
          go_wp2_with fail
          go_ret2
          exact ⟨_, _, rfl, hfin.out, hw2.out⟩
        | false =>
          rw [hL] at hc
          have hnew : Hid (∀ j : Nat, (t.size : Int) - j ≤ most → j < k + 1 → Like ths (tl.drop j) = false) := Lib.hid (fun j h1 h2 => by
            by_cases e : j = k
            · rw [e]; exact hL
            · exact hN.out j h1 (by omega))
          replace hc := Lib.hid hc
          clear hL hN hk
          go_wp2_with fail
          refine hc.out.mono ?_
          rintro e w2 ⟨rfl, hw2⟩
          clear hc
          replace hw2 := Lib.hid hw2
          go_wp2_with fail
          go_roundw
          case rel => exact ⟨k + 1, by go_num, by omega, hnew, hw2⟩
          case measure => simp [intOf]; omega
      · have hnew : Hid (∀ j : Nat, (t.size : Int) - j ≤ most → j < k + 1 → Like ths (tl.drop j) = false) := Lib.hid (fun j h1 h2 => hN.out j h1 (by omega))
        clear hN hk
        go_wp2_with fail
        go_roundw
        case rel => exact ⟨k + 1, by go_num, by omega, hnew, hC⟩
        case measure => simp [intOf]; omega
    · have hfin : RSpanIs ths tl most 0 false := .inr ⟨rfl, rfl, fun j h1 h2 => hN.out j (by rw [hls.out] at h1; exact h1) (by rw [hls.out] at h2; omega)⟩
      clear hN hk
      replace hfin := Lib.hid hfin
      go_wp2_with fail
      go_ret2
      exact ⟨_, _, rfl, hfin.out, hC.out⟩
end Go.Proofs.Ytjocfajnabkhaaa
