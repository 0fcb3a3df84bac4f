/- The reference: layer 11's Quote of bytes wherever they lie, layer 19's digits. Conditions: as they state. -/
import Derived.Test.YtncoedoiakaedaaDoorArQ
import Derived.Test.YtncoedoiakaedaaDoorQuote
import Derived.Test.YtncoedoiakaedaaDoorGenK
set_option linter.unusedVariables false
set_option linter.unusedSimpArgs false
namespace Go.Proofs.YtncoedoiakaedaaDoor
open Go.RowKit Tcl Ar
namespace Rn
set_option maxRecDepth 100000 in
set_option maxHeartbeats 4000000 in
theorem rquote_any (u : List UInt8) (hu : u.length ≤ 16777216) (A : Option Addr) (c : Nat) (w : World) (hS : Sl w 1 (.slice A u.length c) u.length (cellsOf .u8 (nums u))) :
    Calls Tryd.prog 30 #[.slice A u.length c] w fun e w' => e = .returned (.string (bstr (quoteQ u))) ∧ Chg [] w w' := by
  replace hS := Lib.hid hS
  obtain ⟨R, hR⟩ : ∃ R, 34 :: textB false false u = R := ⟨_, rfl⟩
  have hQ : quoteQ u = R ++ [34] := by rw [← hR]; rfl
  rw [hQ]
  clear hQ
  replace hR := Lib.hid hR
  obtain ⟨n, hn⟩ : ∃ n, u.length = n := ⟨_, rfl⟩
  rw [hn] at hu hS ⊢
  go_enter Tryd.func30, Tryd.ntmps30
  go_upto_block 0 with (fail)
  go_wp2
  go_loopg [3, 4] n (fun gk v3 v4 wr => ∃ (j : Nat) (X : List UInt8) (Z : ByteArray), v3 = .string Z ∧ v4 = .int .i64 j ∧ j ≤ n ∧ gk = n - j ∧ Hid (Z = bstr X) ∧ Z.size ≤ 4 * j + 1 ∧ Hid (R = X ++ textB false false (u.drop j)) ∧ Hid (Chg [] w wr))
  case atStart => exact ⟨0, [34], _, rfl, rfl, by omega, by omega, Lib.hid rfl, by show 1 ≤ _; omega, Lib.hid (by rw [← hR.out]; simp), Lib.hid (Chg.refl _ _)⟩
  case round =>
    obtain ⟨j, X, Z, rfl, rfl, hj, rfl, hZ, hX, hT, hC⟩ := hrel
    by_cases hlj : j < n
    · obtain ⟨x, hx⟩ : ∃ x, u[j]? = some x := ⟨_, List.getElem?_eq_getElem (by omega)⟩
      obtain ⟨bk, ok, x', rfl, hx', hcell⟩ := (hS.out.chg hC.out (by simp)).at j (by omega)
      have ex : x' = (x.toNat : Int) := by
        unfold nums at hx'
        rw [List.getElem?_map, hx] at hx'
        simpa using hx'.symm
      rw [ex] at hcell
      have hstep : textB false false (u.drop j) = escB false false x ++ textB false false (u.drop (j + 1)) := by
        obtain ⟨hl, he⟩ := List.getElem?_eq_some_iff.1 hx
        rw [List.drop_eq_getElem_cons hl, he, textB]
      have hT2 := hT.out
      rw [hstep, escB_ff] at hT2
      clear hstep hT hx hx' ex
      cases pb : plainB x with
      | true =>
        rw [pb] at hT2
        replace hT2 := Lib.hid hT2
        have hp := Lib.hid (fun w => qplain_any x true pb w)
        clear pb
        go_wp2_with fail
        refine (hp.out _).mono ?_
        rintro e wr ⟨rfl, rfl⟩
        clear hp
        go_wp2_with fail
        go_roundg (n - (j + 1))
        case measure => omega
        case rel => exact ⟨j + 1, X ++ [x], _, rfl, by go_num, by omega, rfl, Lib.hid (by rw [hZ.out, bstr_app]), (by rw [ByteArray.size_append]; show Z.size + 1 ≤ _; omega), Lib.hid (by rw [hT2.out, List.append_assoc]; rfl), Lib.hid (hC.out.alloc _)⟩
      | false =>
        rw [pb] at hT2
        replace hT2 := Lib.hid hT2
        have hp := Lib.hid (fun w => qplain_any x false pb w)
        have ho := Lib.hid (fun w => qoctal_any x w)
        have h4 : (bstr (octB x)).size = 4 := rfl
        clear pb
        go_wp2_with fail
        refine (hp.out _).mono ?_
        rintro e wr ⟨rfl, rfl⟩
        clear hp
        go_wp2_with fail
        refine (ho.out _).mono ?_
        rintro e wq ⟨rfl, hCq⟩
        clear ho
        go_wp2_with fail
        go_roundg (n - (j + 1))
        case measure => omega
        case rel => exact ⟨j + 1, X ++ octB x, _, rfl, by go_num, by omega, rfl, Lib.hid (by rw [hZ.out, bstr_app]), (by rw [ByteArray.size_append]; show Z.size + 4 ≤ _; omega), Lib.hid (by rw [hT2.out, List.append_assoc]; rfl), Lib.hid (hC.out.trans hCq)⟩
    · obtain rfl : j = n := by omega
      have hE : Z ++ (⟨#[34]⟩ : ByteArray) = bstr (R ++ [34]) := by
        rw [hZ.out, show (⟨#[34]⟩ : ByteArray) = bstr [34] from rfl, bstr_app]
        have h1 : textB false false (u.drop j) = [] := by rw [List.drop_eq_nil_of_le (by omega)]; rfl
        have h2 := hT.out
        rw [h1, List.append_nil] at h2
        rw [h2]
      replace hE := Lib.hid hE
      clear hT hZ hR
      go_wp2_with fail
      go_ret
      exact ⟨congrArg (fun z => Ending.returned (Value.string z)) hE.out, hC.out⟩
open Lib in
theorem dec_step (n : Nat) (s : List UInt8) : decDigits n ++ s = (if n < 10 then [] else decDigits (n / 10)) ++ (UInt8.ofNat (48 + n % 10) :: s) := by
  conv => lhs; unfold decDigits
  by_cases h : n < 10
  · rw [dif_pos h, if_pos h, Nat.mod_eq_of_lt h]; rfl
  · rw [dif_neg h, if_neg h, List.append_assoc]; rfl
def meas (n : Nat) (s : List UInt8) : Nat := n + (if s = [] then 1 else 0)
/-- The digits that are still to come, ahead of those that are there. -/
def Left (D : List UInt8) (n : Nat) (s : List UInt8) : Prop := (n = 0 ∧ s ≠ [] ∧ s = D) ∨ ((0 < n ∨ s = []) ∧ Lib.decDigits n ++ s = D)
theorem Left.step {D : List UInt8} {n : Nat} {s : List UInt8} (h : Left D n s) (hc : 0 < n ∨ s = []) : Left D (n / 10) (UInt8.ofNat (48 + n % 10) :: s) := by
  have h2 : Lib.decDigits n ++ s = D := by
    rcases h with ⟨h1, h2, -⟩ | ⟨-, h⟩
    · rcases hc with hc | hc
      · omega
      · exact absurd hc h2
    · exact h
  rw [dec_step] at h2
  by_cases h10 : n < 10
  · rw [if_pos h10] at h2
    exact .inl ⟨by omega, by simp, h2⟩
  · rw [if_neg h10] at h2
    exact .inr ⟨.inl (by omega), h2⟩
theorem Left.le {D : List UInt8} {n : Nat} {s : List UInt8} (h : Left D n s) : s.length ≤ D.length := by
  rcases h with ⟨-, -, rfl⟩ | ⟨-, rfl⟩
  · exact Nat.le_refl _
  · simp
set_option maxRecDepth 100000 in
set_option maxHeartbeats 4000000 in
theorem digits_any (n0 : Nat) (hn : n0 ≤ 16777216) (w : World) :
    Calls Tryd.prog 31 #[.int .i64 n0] w fun e w' => e = .returned (.string (bstr (Lib.decDigits n0))) ∧ Chg [] w w' := by
  have hDl := Gn.dec_len n0
  obtain ⟨D, hD⟩ : ∃ D, Lib.decDigits n0 = D := ⟨_, rfl⟩
  rw [hD] at hDl ⊢
  have hstart : Hid (Left D n0 []) := Lib.hid (.inr ⟨.inr rfl, by rw [hD, List.append_nil]⟩)
  clear hD
  go_enter Tryd.func31, Tryd.ntmps31
  go_wp2_with fail
  go_loopg [0, 3] (n0 + 1) (fun gk v0 v3 wr => ∃ (n : Nat) (s : List UInt8) (Z : ByteArray), v0 = .int .i64 n ∧ v3 = .string Z ∧ n ≤ n0 ∧ gk = meas n s ∧ Hid (Z = bstr s) ∧ Hid (Left D n s) ∧ Hid (Chg [] w wr))
  case atStart => exact ⟨n0, [], _, rfl, rfl, Nat.le_refl _, rfl, Lib.hid rfl, hstart, Lib.hid (Chg.refl _ _)⟩
  case round =>
    obtain ⟨n, s, Z, rfl, rfl, hn0, rfl, hZ, hL, hC⟩ := hrel
    have hsl := hL.out.le
    have hZs : Z.size = s.length := by rw [hZ.out]; rfl
    by_cases hc : 0 < n ∨ s = []
    · have hL2 := Lib.hid (hL.out.step hc)
      obtain ⟨c, hcd⟩ : ∃ c : UInt8, UInt8.ofNat (48 + n % 10) = c := ⟨_, rfl⟩
      rw [hcd] at hL2
      have hct : (48 + (n : Int) % 10) = (c.toNat : Int) := by
        rw [← hcd]
        have : (UInt8.ofNat (48 + n % 10)).toNat = (48 + n % 10) % 256 := rfl
        rw [this]; omega
      have hcv := fun (W : World) => by
        have := sl_string (P := Tryd.prog) (show Sl (W.alloc (.cells #[.int .u8 (c.toNat : Int)] 5)) 1 (.slice (some ⟨W.heap.size, 0, none⟩) 1 1) 1 (cellsOf .u8 (nums [c])) from sl_new W [.int .u8 (c.toNat : Int)] 5 1 rfl (by decide)) 35 5 9 Tryd.underlying35 Tryd.underlying5 Tryd.underlying9
        rwa [str_nums, ← hct] at this
      have hcat : ¬ (9223372036854775807 < (bstr [c]).size + Z.size) := by rw [hZs]; show ¬ (_ < 1 + _); omega
      have hZ2 : Hid (bstr [c] ++ Z = bstr (c :: s)) := Lib.hid (by rw [hZ.out, bstr_app]; rfl)
      have hme : meas (n / 10) (c :: s) < meas n s := by
        unfold meas
        rw [if_neg (by simp)]
        rcases hc with h | h
        · have : n / 10 < n := Nat.div_lt_self h (by decide)
          omega
        · rw [if_pos h]
          have : n / 10 ≤ n := Nat.div_le_self _ _
          omega
      have hge : (0 : Int) ≤ (n : Int) := by omega
      have hrm : Int.tmod (n : Int) 10 = (n : Int) % 10 := Int.tmod_eq_emod_of_nonneg hge
      have hqo : Int.tdiv (n : Int) 10 = ((n / 10 : Nat) : Int) := by rw [Int.tdiv_eq_ediv_of_nonneg hge]; omega
      rcases Nat.eq_zero_or_pos n with hz | hz
      · subst hz
        have hs1 : s = [] := by rcases hc with h | h; omega; exact h
        have he : (Z.toList == ([] : List UInt8)) = true := by rw [hZ.out, hs1, ByteArray.toList_eq]; rfl
        have hcv2 := hcv
        simp only [show (48 + ((0 : Nat) : Int) % 10) = 48 from rfl] at hcv2
        have hC2 := Lib.hid (hC.out.alloc (.cells #[.int .u8 48] 5 (0, 0)))
        clear hC hct
        go_wp2_with fail
        go_roundg (meas (0 / 10) (c :: s))
        case measure => exact hme
        case rel => exact ⟨0 / 10, c :: s, _, rfl, rfl, by omega, rfl, hZ2, hL2, hC2⟩
      · have hpos : (0 : Int) < (n : Int) := by omega
        have hC2 := Lib.hid (hC.out.alloc (.cells #[.int .u8 (48 + (n : Int) % 10)] 5 (0, 0)))
        have hn10 : n / 10 ≤ n0 := Nat.le_trans (Nat.div_le_self _ _) hn0
        clear hC hct
        go_wp2_with fail
        go_roundg (meas (n / 10) (c :: s))
        case measure => exact hme
        case rel => exact ⟨n / 10, c :: s, _, by congr 1, rfl, hn10, rfl, hZ2, hL2, hC2⟩
    · have hn1 : n = 0 := by omega
      subst hn1
      have hs1 : s ≠ [] := fun h => hc (.inr h)
      have he : (Z.toList == ([] : List UInt8)) = false := by rw [hZ.out, ByteArray.toList_eq]; exact beq_eq_false_iff_ne.2 hs1
      have hfin : Hid (Z = bstr D) := Lib.hid (by
        rw [hZ.out]
        rcases hL.out with ⟨-, -, h⟩ | ⟨h, -⟩
        · rw [h]
        · rcases h with h | h
          · omega
          · exact absurd h hs1)
      go_wp2_with fail
      go_ret
      exact ⟨congrArg (fun z => Ending.returned (Value.string z)) hfin.out, hC.out⟩
end Rn
end Go.Proofs.YtncoedoiakaedaaDoor
