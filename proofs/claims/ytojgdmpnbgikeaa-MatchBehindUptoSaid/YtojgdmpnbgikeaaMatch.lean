/- Contracts of glob.Match, Check, Span, and of the law's 'alive'. Conditions: as they state. -/
import Derived.Test.YtojgdmpnbgikeaaLike
set_option linter.unusedVariables false
set_option linter.unusedSimpArgs false
namespace Go.Proofs.Ytojgdmpnbgikeaa
open Go.RowKit Glob
namespace Glob
/-- What is wrong with a pattern. -/
def errOf (p : List UInt8) : Int := if 1024 < p.length then 6 else if parse p = none then 4 else 0
def matchOf (p t : List UInt8) : Bool := if 1024 < p.length then false else match parse p with | none => false | some ths => Like ths t
theorem errOf_long {p : List UInt8} (h : p.length > 1024) : errOf p = 6 := if_pos h
theorem errOf_none {p : List UInt8} (h : p.length ≤ 1024) (hp : parse p = none) : errOf p = 4 := by rw [errOf, if_neg (by omega), if_pos hp]
theorem errOf_some {p : List UInt8} {ths : List Th} (h : p.length ≤ 1024) (hp : parse p = some ths) : errOf p = 0 := by rw [errOf, if_neg (by omega), if_neg (by rw [hp]; simp)]
theorem errOf_zero {p : List UInt8} (h : errOf p = 0) : p.length ≤ 1024 ∧ ∃ ths, parse p = some ths := by
  unfold errOf at h
  split at h
  · cases h
  · split at h
    · cases h
    · rename_i h1 h2
      exact ⟨by omega, Option.ne_none_iff_exists'.1 h2⟩
theorem matchOf_long {p t : List UInt8} (h : p.length > 1024) : matchOf p t = false := if_pos h
theorem matchOf_none {p t : List UInt8} (hp : parse p = none) : matchOf p t = false := by rw [matchOf, hp]; split <;> rfl
theorem matchOf_some {p t : List UInt8} {ths : List Th} (h : p.length ≤ 1024) (hp : parse p = some ths) : matchOf p t = Like ths t := by rw [matchOf, if_neg (by omega), hp]
end Glob

theorem Chg.drewN' {a b c : World} (h : Chg [] a b) (hc : ∃ m, c = b.drewN m) : Chg [] a c := by obtain ⟨m, rfl⟩ := hc; exact h.drewN m
set_option maxRecDepth 100000 in
theorem match_any (s t : ByteArray) (hs : s.size ≤ 100000) (ht : t.size ≤ 9223372036854775807) (w : World) :
    Calls Try.prog 25 #[.string s, .string t] w fun e w' => e = .returned (.tuple #[.bool (matchOf s.data.toList t.data.toList), .int .i64 (errOf s.data.toList)]) ∧ Chg [] w w' := by
  obtain ⟨l, hl⟩ : ∃ l, l = s.data.toList := ⟨_, rfl⟩
  have hth := things_any s hs w
  rw [← hl] at hth ⊢
  clear hl
  replace hth := Lib.hid hth
  go_enter Try.func25, Try.ntmps25
  go_wp2_with fail
  refine hth.out.mono ?_
  rintro e w1 ⟨hC, h⟩
  clear hth
  replace hC := Lib.hid hC
  rcases h with ⟨h1, rfl⟩ | ⟨h1, h2, rfl⟩ | ⟨h1, ths, A, c, cs, hp, rfl, hS, hT, hlen⟩
  · have e1 := errOf_long h1
    have e2 := matchOf_long (t := t.data.toList) h1
    clear h1
    go_wp2_with fail
    go_ret2
    rw [e1, e2]
    exact ⟨rfl, hC.out⟩
  · have e1 := errOf_none h1 h2
    have e2 := matchOf_none (t := t.data.toList) h2
    clear h1 h2
    go_wp2_with fail
    go_ret2
    rw [e1, e2]
    exact ⟨rfl, hC.out⟩
  · have e1 := errOf_some h1 hp
    have e2 := matchOf_some (t := t.data.toList) h1 hp
    have hk := like_any t ht A ths.length c (by omega) ths cs w1 hS hT rfl
    clear h1 hp hS hT hlen
    replace hk := Lib.hid hk
    replace e1 := Lib.hid e1
    replace e2 := Lib.hid e2
    go_wp2_with fail
    refine hk.out.mono ?_
    rintro e w2 ⟨rfl, hw2⟩
    replace hw2 := Lib.hid hw2
    clear hk
    go_wp2_with fail
    go_ret2
    rw [e1.out, e2.out]
    exact ⟨rfl, hC.out.drewN' hw2.out⟩
set_option maxRecDepth 100000 in
theorem check_any (s : ByteArray) (hs : s.size ≤ 100000) (w : World) :
    Calls Try.prog 22 #[.string s] w fun e w' => e = .returned (.int .i64 (errOf s.data.toList)) ∧ Chg [] w w' := by
  obtain ⟨l, hl⟩ : ∃ l, l = s.data.toList := ⟨_, rfl⟩
  have hth := things_any s hs w
  rw [← hl] at hth ⊢
  clear hl
  replace hth := Lib.hid hth
  go_enter Try.func22, Try.ntmps22
  go_wp2_with fail
  refine hth.out.mono ?_
  rintro e w1 ⟨hC, h⟩
  clear hth
  replace hC := Lib.hid hC
  rcases h with ⟨h1, rfl⟩ | ⟨h1, h2, rfl⟩ | ⟨h1, ths, A, c, cs, hp, rfl, hS, hT, hlen⟩
  · have e1 := errOf_long h1
    clear h1
    go_wp2_with fail
    go_ret
    rw [e1]
    exact ⟨rfl, hC.out⟩
  · have e1 := errOf_none h1 h2
    clear h1 h2
    go_wp2_with fail
    go_ret
    rw [e1]
    exact ⟨rfl, hC.out⟩
  · have e1 := errOf_some h1 hp
    clear h1 hp hS hT hlen
    go_wp2_with fail
    go_ret
    rw [e1]
    exact ⟨rfl, hC.out⟩
/-- What `Span` tells of things. -/
def SpanIs (ths : List Th) (t : List UInt8) (a : Nat) (i : Int) (ok : Bool) : Prop :=
  (ok = true ∧ ∃ k : Nat, i = k ∧ a ≤ k ∧ k ≤ t.length ∧ Like ths (t.drop k) = true ∧ ∀ j, a ≤ j → j < k → Like ths (t.drop j) = false)
  ∨ (ok = false ∧ i = 0 ∧ ∀ j, a ≤ j → j ≤ t.length → Like ths (t.drop j) = false)
set_option maxRecDepth 100000 in
set_option maxHeartbeats 1000000 in
theorem span_any (s t : ByteArray) (hs : s.size ≤ 1024) (ht : t.size ≤ 1000000) (most : Int) (h0 : 0 ≤ most) (hm : most < 9223372036854775808) (w : World) (ths : List Th) (hp : parse s.data.toList = some ths) :
    Calls Try.prog 45 #[.string s, .string t, .int .i64 most] w fun e w' => ∃ i ok, e = .returned (.tuple #[.int .i64 i, .bool ok, .int .i64 0]) ∧ SpanIs ths t.data.toList (t.size - most.toNat) i ok ∧ Chg [] w w' := by
  obtain ⟨tl, htl⟩ : ∃ tl, tl = t.data.toList := ⟨_, rfl⟩
  have hls : tl.length = t.size := by rw [htl, Array.length_toList]; rfl
  have hsz : s.data.toList.length = s.size := by rw [Array.length_toList]; rfl
  have hth := things_any s (by omega) w
  have hex : ∀ k, (t.extract k t.size).data.toList = tl.drop k := fun k => by rw [extract_list, ← htl, List.take_of_length_le (by omega)]
  rw [← htl]
  clear htl
  obtain ⟨a, ha⟩ : ∃ a : Nat, a = t.size - most.toNat := ⟨_, rfl⟩
  rw [← ha]
  replace hls := Lib.hid hls
  replace hth := Lib.hid hth
  replace hex := Lib.hid hex
  have hcase : most < (t.size : Int) ∨ (t.size : Int) ≤ most := by omega
  go_enter Try.func45, Try.ntmps45
  go_wp2_with fail
  refine hth.out.mono ?_
  rintro e w1 ⟨hC, h⟩
  clear hth
  replace hC := Lib.hid hC
  rcases h with ⟨h1, rfl⟩ | ⟨h1, h2, rfl⟩ | ⟨h1, ths', A, c, cs, hp', rfl, hS, hT, hlen⟩
  · omega
  · rw [hp] at h2; cases h2
  · obtain rfl : ths' = ths := by rw [hp] at hp'; simpa using hp'.symm
    have hk : ∀ k m, k ≤ t.size → Calls Try.prog 39 #[.slice A ths'.length c, .string (t.extract k t.size)] (w1.drewN m) fun e w' => e = .returned (.bool (Like ths' (tl.drop k))) ∧ ∃ m, w' = w1.drewN m := fun k m hkt => by
      rw [← hex.out k]
      refine (like_any (t.extract k t.size) (by rw [ByteArray.size_extract]; omega) A ths'.length c (by omega) ths' cs (w1.drewN m) (hS.chg ((Chg.refl [] w1).drewN m) (by simp)) (hT.chg ((Chg.refl [] w1).drewN m) (by simp)) rfl).mono ?_
      rintro e w' ⟨h1, m', h2⟩
      exact ⟨h1, _, by rw [h2, World.drewN_drewN]⟩
    clear hp hp' hS hT hlen h1 hsz
    replace hk := Lib.hid hk
    rcases hcase with hcase | hcase
    · have hst : (t.size : Int) - most = (a : Int) := by omega
      clear ha
      go_wp2_with fail
      go_loopw [11] (fun v wr => ∃ (k m : Nat), v = .int .i64 k ∧ a ≤ k ∧ k ≤ t.size + 1 ∧ wr = w1.drewN m ∧ Hid (∀ j, a ≤ j → j < k → Like ths' (tl.drop j) = false)) (fun v _ => t.size + 1 - (intOf v).toNat)
      case atStart => exact ⟨a, 0, by simp only [hst], Nat.le_refl _, by omega, rfl, (show ∀ j, a ≤ j → j < a → _ from fun j h1 h2 => by omega)⟩
      case round =>
        obtain ⟨k, m, rfl, hak, hk1, rfl, hN⟩ := hrel
        by_cases hlt : k ≤ t.size
        · have hc := hk.out k m hlt
          cases hL : Like ths' (tl.drop k) with
          | true =>
            rw [hL] at hc
            have hfin : SpanIs ths' tl a k true := .inl ⟨rfl, k, rfl, hak, by rw [hls.out]; exact hlt, hL, hN.out⟩
            replace hc := Lib.hid hc
            replace hfin := Lib.hid hfin
            clear hL hN hk
            go_wp2_with fail
            refine hc.out.mono ?_
            rintro e w2 ⟨rfl, hw2⟩
            clear hc
            replace hw2 := Lib.hid hw2
            go_wp2_with fail
            go_ret3
            exact ⟨_, _, rfl, hfin.out, hC.out.drewN' hw2.out⟩
          | false =>
            rw [hL] at hc
            have hnew : Hid (∀ j, a ≤ j → j < k + 1 → Like ths' (tl.drop j) = false) := Lib.hid (fun j h1 h2 => by
              by_cases e : j = k
              · rw [e]; exact hL
              · exact hN.out j h1 (by omega))
            replace hc := Lib.hid hc
            clear hL hN hk
            go_wp2_with fail
            refine hc.out.mono ?_
            rintro e w2 ⟨rfl, m2, rfl⟩
            clear hc
            go_wp2_with fail
            go_roundw
            case rel => exact ⟨k + 1, m2, by go_num, by omega, by omega, rfl, hnew⟩
            case measure => simp [intOf]; omega
        · have hfin : SpanIs ths' tl a 0 false := .inr ⟨rfl, rfl, fun j h1 h2 => hN.out j h1 (by rw [hls.out] at h2; omega)⟩
          clear hN hk
          replace hfin := Lib.hid hfin
          go_wp2_with fail
          go_ret3
          exact ⟨_, _, rfl, hfin.out, hC.out.drewN m⟩
    · have hst : a = 0 := by omega
      clear ha
      go_wp2_with fail
      all_goals
        go_loopw [11] (fun v wr => ∃ (k m : Nat), v = .int .i64 k ∧ a ≤ k ∧ k ≤ t.size + 1 ∧ wr = w1.drewN m ∧ Hid (∀ j, a ≤ j → j < k → Like ths' (tl.drop j) = false)) (fun v _ => t.size + 1 - (intOf v).toNat)
        case atStart => exact ⟨a, 0, by simp [hst], Nat.le_refl _, by omega, rfl, (show ∀ j, a ≤ j → j < a → _ from fun j h1 h2 => by omega)⟩
        case round =>
          obtain ⟨k, m, rfl, hak, hk1, rfl, hN⟩ := hrel
          by_cases hlt : k ≤ t.size
          · have hc := hk.out k m hlt
            cases hL : Like ths' (tl.drop k) with
            | true =>
              rw [hL] at hc
              have hfin : SpanIs ths' tl a k true := .inl ⟨rfl, k, rfl, hak, by rw [hls.out]; exact hlt, hL, hN.out⟩
              replace hc := Lib.hid hc
              replace hfin := Lib.hid hfin
              clear hL hN hk
              go_wp2_with fail
              refine hc.out.mono ?_
              rintro e w2 ⟨rfl, hw2⟩
              clear hc
              replace hw2 := Lib.hid hw2
              go_wp2_with fail
              go_ret3
              exact ⟨_, _, rfl, hfin.out, hC.out.drewN' hw2.out⟩
            | false =>
              rw [hL] at hc
              have hnew : Hid (∀ j, a ≤ j → j < k + 1 → Like ths' (tl.drop j) = false) := Lib.hid (fun j h1 h2 => by
                by_cases e : j = k
                · rw [e]; exact hL
                · exact hN.out j h1 (by omega))
              replace hc := Lib.hid hc
              clear hL hN hk
              go_wp2_with fail
              refine hc.out.mono ?_
              rintro e w2 ⟨rfl, m2, rfl⟩
              clear hc
              go_wp2_with fail
              go_roundw
              case rel => exact ⟨k + 1, m2, by go_num, by omega, by omega, rfl, hnew⟩
              case measure => simp [intOf]; omega
          · have hfin : SpanIs ths' tl a 0 false := .inr ⟨rfl, rfl, fun j h1 h2 => hN.out j h1 (by rw [hls.out] at h2; omega)⟩
            clear hN hk
            replace hfin := Lib.hid hfin
            go_wp2_with fail
            go_ret3
            exact ⟨_, _, rfl, hfin.out, hC.out.drewN m⟩
theorem parse_alive1 : parse [97, 42, 98] = some [.lit 97, .any, .lit 98] := by
  rw [parse_lit _ _ (by decide) (by decide) (by decide) (by decide), parse_star, parse_lit _ _ (by decide) (by decide) (by decide) (by decide), parse_nil]; rfl
theorem parse_alive2 : parse [91, 97, 45, 99, 93, 63] = some [.set [97, 45, 99], .one] := by
  rw [parse_set_some _ 2 (by decide), show ([97, 45, 99, 93, 63] : List UInt8).drop (2 + 2) = [63] from rfl, parse_one, parse_nil]; rfl
theorem parse_alive3 : parse [98, 42] = some [.lit 98, .any] := by
  rw [parse_lit _ _ (by decide) (by decide) (by decide) (by decide), parse_star, parse_nil]; rfl
theorem alive1 : matchOf [97, 42, 98] [97, 88, 88, 98] = true := by
  rw [matchOf_some (by decide) parse_alive1, like_cons_cons rfl, like_any_cons, like_any_cons, like_any_cons, like_cons_cons (x := .lit 98) rfl, like_cons_cons (x := .lit 98) rfl, like_cons_cons (x := .lit 98) rfl, like_nil_nil]
  simp [Th.has]
theorem alive2 : matchOf [91, 97, 45, 99, 93, 63] [98, 122] = true := by
  rw [matchOf_some (by decide) parse_alive2, like_cons_cons rfl, like_cons_cons rfl, like_nil_nil]
  decide
theorem alive3 {i : Int} {ok : Bool} (h : SpanIs [.lit 98, .any] [120, 98, 121, 98] 0 i ok) : i = 1 ∧ ok = true := by
  have h0 : Like [.lit 98, .any] ([120, 98, 121, 98] : List UInt8) = false := by
    rw [like_cons_cons rfl]; rfl
  have h1 : Like [.lit 98, .any] ([98, 121, 98] : List UInt8) = true := by
    rw [like_cons_cons rfl, like_any_cons, like_any_cons, like_any_nil, like_nil_nil]; simp [Th.has]
  rcases h with ⟨rfl, k, rfl, _, hk, h2, h3⟩ | ⟨rfl, rfl, h3⟩
  · refine ⟨?_, rfl⟩
    by_cases hk1 : k = 0
    · subst hk1; rw [List.drop_zero, h0] at h2; cases h2
    · by_cases hk2 : 1 < k
      · have := h3 1 (by omega) hk2
        rw [show ([120, 98, 121, 98] : List UInt8).drop 1 = [98, 121, 98] from rfl, h1] at this; cases this
      · have : k = 1 := by omega
        subst this; rfl
  · have := h3 1 (by omega) (by decide)
    rw [show ([120, 98, 121, 98] : List UInt8).drop 1 = [98, 121, 98] from rfl, h1] at this; cases this
end Go.Proofs.Ytojgdmpnbgikeaa
