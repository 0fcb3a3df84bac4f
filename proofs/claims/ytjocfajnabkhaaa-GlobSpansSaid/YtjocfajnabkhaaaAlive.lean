/- The law's 'alive'; Match at a right pattern. Conditions: as they state. -/
import Derived.Test.YtjocfajnabkhaaaMatch
set_option linter.unusedVariables false
set_option linter.unusedSimpArgs false
namespace Go.Proofs.Ytjocfajnabkhaaa
open Go.RowKit Glob
set_option maxRecDepth 100000 in
theorem alive_any (w : World) : Calls Try.prog 10 #[] w fun e w' => e = .returned (.bool true) ∧ Chg [] w w' := by
  have hm1 : ∀ w, Calls Try.prog 15 #[.string ⟨#[97, 42, 98]⟩, .string ⟨#[97, 88, 88, 98]⟩] w fun e w' => e = .returned (.tuple #[.bool true, .int .i64 0]) ∧ Chg [] w w' := fun w => by
    have h := match_any ⟨#[97, 42, 98]⟩ ⟨#[97, 88, 88, 98]⟩ (by decide) (by decide) w
    have e1 : matchOf (⟨#[97, 42, 98]⟩ : ByteArray).data.toList (⟨#[97, 88, 88, 98]⟩ : ByteArray).data.toList = true := alive1
    have e2 : errOf (⟨#[97, 42, 98]⟩ : ByteArray).data.toList = 0 := errOf_some (by decide) parse_alive1
    rw [e1, e2] at h; exact h
  have hm2 : ∀ w, Calls Try.prog 15 #[.string ⟨#[91, 97, 45, 99, 93, 63]⟩, .string ⟨#[98, 122]⟩] w fun e w' => e = .returned (.tuple #[.bool true, .int .i64 0]) ∧ Chg [] w w' := fun w => by
    have h := match_any ⟨#[91, 97, 45, 99, 93, 63]⟩ ⟨#[98, 122]⟩ (by decide) (by decide) w
    have e1 : matchOf (⟨#[91, 97, 45, 99, 93, 63]⟩ : ByteArray).data.toList (⟨#[98, 122]⟩ : ByteArray).data.toList = true := alive2
    have e2 : errOf (⟨#[91, 97, 45, 99, 93, 63]⟩ : ByteArray).data.toList = 0 := errOf_some (by decide) parse_alive2
    rw [e1, e2] at h; exact h
  have hm3 : ∀ w, Calls Try.prog 13 #[.string ⟨#[98, 42]⟩, .string ⟨#[120, 98, 121, 98]⟩, .int .i64 9] w fun e w' => e = .returned (.tuple #[.int .i64 1, .bool true, .int .i64 0]) ∧ Chg [] w w' := fun w => by
    have h := span_any ⟨#[98, 42]⟩ ⟨#[120, 98, 121, 98]⟩ (by decide) (by decide) 9 (by decide) (by decide) w [.lit 98, .any] parse_alive3
    refine h.mono ?_
    rintro e w' ⟨i, ok, rfl, h1, h2⟩
    obtain ⟨rfl, rfl⟩ := alive3 h1
    exact ⟨rfl, h2⟩
  replace hm1 := Lib.hid hm1
  replace hm2 := Lib.hid hm2
  replace hm3 := Lib.hid hm3
  go_enter Try.func10, Try.ntmps10
  go_wp2_with fail
  refine (hm1.out _).mono ?_
  rintro e w1 ⟨rfl, hC1⟩
  replace hC1 := Lib.hid hC1
  go_wp2_with fail
  refine (hm2.out _).mono ?_
  rintro e w2 ⟨rfl, hC2⟩
  replace hC2 := Lib.hid hC2
  go_wp2_with fail
  refine (hm3.out _).mono ?_
  rintro e w3 ⟨rfl, hC3⟩
  replace hC3 := Lib.hid hC3
  go_wp2_with fail
  go_ret
  exact ⟨rfl, (hC1.out.trans hC2.out).trans hC3.out⟩
/-- Match at a right pattern. -/
theorem match_ok (s t : ByteArray) (L T : List UInt8) (ths : List Th) (hL : s.data.toList = L) (hT : t.data.toList = T) (h1 : L.length ≤ 1024) (h2 : T.length ≤ 9223372036854775807) (hp : parse L = some ths) (w : World) :
    Calls Try.prog 15 #[.string s, .string t] w fun e w' => e = .returned (.tuple #[.bool (Like ths T), .int .i64 0]) ∧ Hid (Chg [] w w') := by
  have hs : s.size = L.length := by rw [← hL, Array.length_toList]; rfl
  have ht : t.size = T.length := by rw [← hT, Array.length_toList]; rfl
  have h := match_any s t (by omega) (by omega) w
  rw [hL, hT, errOf_some h1 hp, matchOf_some h1 hp] at h
  exact h
theorem app_list (s t : ByteArray) : (s ++ t).data.toList = s.data.toList ++ t.data.toList := by
  rw [ByteArray.data_append, Array.toList_append]
theorem size_list (s : ByteArray) : s.size = s.data.toList.length := by rw [Array.length_toList]; rfl
end Go.Proofs.Ytjocfajnabkhaaa
