/- The reference of layer 9: at, Shortest, Pieces. Conditions: as they state. -/
import Derived.Test.YtncoedoiakaedaaDoorBag
import Derived.Test.YtncoedoiakaedaaDoorTclU8
set_option linter.unusedVariables false
set_option linter.unusedSimpArgs false
namespace Go.Proofs.YtncoedoiakaedaaDoor
open Go.RowKit Tail Tl Tcl
namespace Rn
theorem str_ns (x : List UInt8) : strOfNums (ns x) = bstr x := by
  have hid : ((fun n : Int => UInt8.ofNat n.toNat) ∘ fun c : UInt8 => (c.toNat : Int)) = id := by funext c; simp
  simp [strOfNums, ns, bstr, hid]
theorem bstr_eqb (a b : List UInt8) : ((bstr a).toList == (bstr b).toList) = decide (a = b) := by
  rw [ByteArray.toList_eq, ByteArray.toList_eq]
  show (a == b) = _
  by_cases h : a = b
  · rw [decide_eq_true h]; exact beq_iff_eq.2 h
  · rw [decide_eq_false h]; exact beq_eq_false_iff_ne.2 h
set_option maxRecDepth 100000 in
set_option maxHeartbeats 4000000 in
theorem rat_any (w : World) (t p : List UInt8) (A B : Option Addr) (n c k d i : Nat) (hn : t.length = n) (hk : p.length = k) (hi : i ≤ n) (hn2 : n ≤ 262144) (hk2 : k ≤ 262144) (hS : Sl w 1 (.slice A n c) n (cellsOf .u8 (ns t))) (hP : Sl w 1 (.slice B k d) k (cellsOf .u8 (ns p))) :
    Calls Tryd.prog 34 #[.slice A n c, .slice B k d, .int .i64 i] w fun e w' => e = .returned (.bool (decide (k ≤ n - i ∧ (t.drop i).take k = p))) ∧ Chg [] w w' := by
  have g1 : (i : Int) ≥ 0 := by omega
  have g2 : (i : Int) ≤ (n : Int) := by omega
  have hw0 := IntWalk.i64_in ((n : Int) - (i : Int)) (by omega)
  have hw1 := IntWalk.i64_in ((i : Int) + (k : Int)) (by omega)
  by_cases hlt : k ≤ n - i
  · have g3 : (k : Int) ≤ (n : Int) - (i : Int) := by omega
    obtain ⟨A', c', hsl, hSm, -⟩ := slice_mid (P := Tryd.prog) 35 5 Tryd.underlying35 Tryd.info_u8 hS (i : Int) ((i : Int) + (k : Int)) (by omega) (by omega) (by omega) k (by omega)
    have hx : ((cellsOf .u8 (ns t)).take (((i : Int) + (k : Int)).toNat * 1)).drop ((i : Int).toNat * 1) = cellsOf .u8 (ns ((t.drop i).take k)) := by
      rw [cellsOf_take, cellsOf_drop, ns_take, ns_drop, show ((i : Int) + (k : Int)).toNat * 1 = i + k by omega, show ((i : Int)).toNat * 1 = i by omega, List.drop_take, show i + k - i = k by omega]
    rw [hx] at hSm
    obtain ⟨x, hxe⟩ : ∃ x, (t.drop i).take k = x := ⟨_, rfl⟩
    rw [hxe] at hSm ⊢
    have hcv1 := fun (m : Nat) => by
      have := sl_string (P := Tryd.prog) (hSm.chg ((Chg.refl [] w).drewN m) (by simp)) 35 5 9 Tryd.underlying35 Tryd.underlying5 Tryd.underlying9
      rwa [str_ns] at this
    have hcv2 := fun (m : Nat) => by
      have := sl_string (P := Tryd.prog) (hP.chg ((Chg.refl [] w).drewN m) (by simp)) 35 5 9 Tryd.underlying35 Tryd.underlying5 Tryd.underlying9
      rwa [str_ns] at this
    have hc1 := hcv1 0
    have hc2 := hcv2 0
    have hres : decide (k ≤ n - i ∧ x = p) = decide (x = p) := by simp [hlt]
    rw [hres]
    clear hS hP hSm hx hxe hn hk
    go_enter Tryd.func34, Tryd.ntmps34
    go_wp2_with fail
    go_quiet (fail)
    go_wp2_with fail
    go_ret
    exact ⟨by rw [← bstr_eqb]; rfl, (Chg.refl [] w).drewN _⟩
  · have g3 : decide ((k : Int) ≤ (n : Int) - (i : Int)) = false := decide_eq_false (by omega)
    have hres : decide (k ≤ n - i ∧ (t.drop i).take k = p) = false := decide_eq_false (fun h => hlt h.1)
    rw [hres]
    clear hS hP
    go_enter Tryd.func34, Tryd.ntmps34
    go_wp2_with fail
    go_quiet (fail)
    go_wp2_with fail
    go_ret
    exact ⟨rfl, (Chg.refl [] w).drewN _⟩
theorem cntTo_le (f : Nat → Bool) : ∀ k, cntTo f k ≤ k
  | 0 => Nat.le_refl _
  | k + 1 => by rw [cntTo]; have := cntTo_le f k; split <;> omega
theorem endAt_at {t : List UInt8} {q i : Nat} (hi : i ≤ t.length) : endAt t q i = decide (q ≤ t.length - i ∧ (t.drop i).take q = t.drop (t.length - q)) := by
  unfold endAt
  by_cases h : q ≤ t.length - i ∧ (t.drop i).take q = t.drop (t.length - q)
  · rw [decide_eq_true h, decide_eq_true ⟨h.1, hi, h.2⟩]
  · rw [decide_eq_false h, decide_eq_false (fun h2 => h ⟨h2.1, h2.2.2⟩)]
theorem short_le (t : List UInt8) : shortest t ≤ t.length := by
  unfold shortest
  split
  · exact Nat.zero_le _
  · rename_i h
    have := longest_lt (b := t.reverse) (by simpa using h)
    rw [List.length_reverse] at this
    omega
set_option maxRecDepth 100000 in
set_option maxHeartbeats 4000000 in
theorem rshort_any (w : World) (t : List UInt8) (A : Option Addr) (n c : Nat) (hn : t.length = n) (hn2 : n ≤ 262144) (hS : Sl w 1 (.slice A n c) n (cellsOf .u8 (ns t))) :
    Calls Tryd.prog 46 #[.slice A n c] w fun e w' => e = .returned (.int .i64 (shortest t)) ∧ Chg [] w w' := by
  have hle := short_le t
  rw [hn] at hle
  obtain ⟨s, hs⟩ : ∃ s, shortest t = s := ⟨_, rfl⟩
  rw [hs] at hle ⊢
  by_cases h0 : n = 0
  · subst h0
    obtain rfl : s = 0 := by omega
    clear hS
    go_enter Tryd.func46, Tryd.ntmps46
    go_wp2_with fail
    go_loopg [3] 1 (fun gk v3 wr => v3 = .int .i64 1 ∧ wr = w)
    case atStart => exact ⟨rfl, rfl⟩
    case round =>
      obtain ⟨rfl, rfl⟩ := hrel
      go_wp2_with fail
      go_ret
      exact ⟨rfl, Chg.refl _ _⟩
  have ht : t ≠ [] := by rintro rfl; exact h0 hn.symm
  have hone := shortest_one ht
  rw [hs, hn] at hone
  have hs1 : 1 ≤ s := by rw [← hs]; unfold shortest; rw [if_neg ht]; omega
  have hnot : ∀ q, 0 < q → q < s → cntTo (endAt t q) n ≠ 1 := fun q h1 h2 => by rw [← hn]; exact shortest_not h1 (by rw [hs]; exact h2)
  replace hone := Lib.hid hone
  replace hnot := Lib.hid hnot
  replace hS := Lib.hid hS
  replace hn := Lib.hid hn
  clear hs ht
  go_enter Tryd.func46, Tryd.ntmps46
  go_wp2_with fail
  go_loopg [3] (n + 1) (fun gk v3 wr => ∃ q : Nat, v3 = .int .i64 q ∧ 1 ≤ q ∧ q ≤ s ∧ gk = n + 2 - q ∧ Hid (Chg [] w wr))
  case atStart => exact ⟨1, rfl, by omega, by omega, by omega, Lib.hid (Chg.refl _ _)⟩
  case round =>
    obtain ⟨q, rfl, hq1, hq2, rfl, hC⟩ := hrel
    have hqn : (q : Int) ≤ (n : Int) := by omega
    obtain ⟨A', c', hsl, hSx, -⟩ := slice_from (P := Tryd.prog) 35 5 Tryd.underlying35 Tryd.info_u8 hS.out ((n : Int) - (q : Int)) (by omega) q (by omega)
    rw [show ((n : Int) - (q : Int)).toNat * 1 = n - q by omega, cellsOf_drop, ns_drop] at hSx
    have hat := Lib.hid (fun (i : Nat) (hi : i < n) W (hW : Chg [] w W) => rat_any W t (t.drop (n - q)) A A' n c q c' i hn.out (by rw [List.length_drop, hn.out]; omega) (by omega) hn2 (by omega) (hS.out.chg hW (by simp)) (hSx.chg hW (by simp)))
    clear hSx
    go_wp2_with fail
    clear hsl
    go_loopg [5, 6, 7] n (fun gk v5 v6 v7 wr => ∃ i : Nat, v6 = .int .i64 i ∧ i ≤ n ∧ gk = n - i ∧ v5 = .int .i64 (cntTo (endAt t q) i : Nat) ∧ Hid (Chg [] w wr))
    case atStart => exact ⟨0, rfl, by omega, by omega, rfl, hC⟩
    case round =>
      clear hC
      obtain ⟨i, rfl, hi, rfl, rfl, hC⟩ := hrel
      have hcl := cntTo_le (endAt t q) i
      obtain ⟨cc, hcc⟩ : ∃ cc, cntTo (endAt t q) i = cc := ⟨_, rfl⟩
      rw [hcc] at hcl
      by_cases hlt : i < n
      · have hst : Hid (cntTo (endAt t q) (i + 1) = cc + (if endAt t q i then 1 else 0)) := Lib.hid (by rw [cntTo, hcc])
        have hc1 := hat.out i hlt _ hC.out
        have hea : decide (q ≤ n - i ∧ (t.drop i).take q = t.drop (n - q)) = endAt t q i := by rw [endAt_at (by rw [hn.out]; omega), hn.out]
        rw [hea] at hc1
        replace hc1 := Lib.hid hc1
        rw [hcc]
        clear hat hcc hea
        cases hb : endAt t q i with
        | true =>
          rw [hb] at hc1 hst
          go_wp2_with fail
          refine hc1.out.mono ?_
          rintro e w5 ⟨rfl, hC5⟩
          have hC6 := Lib.hid (hC.out.trans hC5)
          clear hC5 hC hc1 hb
          go_wp2_with fail
          go_roundg (n - (i + 1))
          case measure => omega
          case rel => exact ⟨i + 1, by go_num, by omega, rfl, by rw [hst.out]; go_num, hC6⟩
        | false =>
          rw [hb] at hc1 hst
          go_wp2_with fail
          refine hc1.out.mono ?_
          rintro e w5 ⟨rfl, hC5⟩
          have hC6 := Lib.hid (hC.out.trans hC5)
          clear hC5 hC hc1 hb
          go_wp2_with fail
          go_roundg (n - (i + 1))
          case measure => omega
          case rel => exact ⟨i + 1, by go_num, by omega, rfl, by rw [hst.out]; rfl, hC6⟩
      · obtain rfl : i = n := by omega
        rw [hcc]
        clear hat
        by_cases h1 : cc = 1
        · subst h1
          have hqs : q = s := by
            rcases Nat.lt_or_ge q s with h | h
            · exact absurd hcc (hnot.out q (by omega) h)
            · omega
          clear hcc
          go_wp2_with fail
          go_ret
          exact ⟨by rw [← hqs]; rfl, hC.out⟩
        · have hqs : q ≠ s := by
            rintro rfl
            exact h1 (by rw [← hcc]; exact hone.out)
          have h2 : ((cc : Int) == 1) = false := by rw [beq_eq_false_iff_ne]; omega
          clear hcc
          go_wp2_with fail
          go_roundg (i + 2 - (q + 1))
          case measure => omega
          case rel => exact ⟨q + 1, by go_num, by omega, by omega, rfl, hC⟩
end Rn
end Go.Proofs.YtncoedoiakaedaaDoor
