/- WindowLast: the walk. No condition. -/
import Derived.Test.YtjfbbobaghdocaaWinLaw
import Derived.Test.YtjfbbobaghdocaaLib2
import Derived.Deep.LoopGhost
import Derived.Deep.RegionHeld3
set_option linter.unusedVariables false
set_option linter.unusedSimpArgs false
namespace Go.Proofs.Ytjfbbobaghdocaa
open Go.RowKit

theorem u64_nonneg (x : Int) : 0 ≤ IntKind.u64.wrap x := by
  simp only [IntKind.wrap]; first | omega | (split <;> omega) | exact Int.emod_nonneg _ (by decide)
theorem lastN_snoc (n : Nat) (B : List Int) (k : Nat) (x : Int) (hx : B[k]? = some x) : lastN n (lastN n (B.take k) ++ [x]) = lastN n (B.take (k + 1)) := by
  have hk : k < B.length := by
    rcases Nat.lt_or_ge k B.length with h | h
    · exact h
    · simp [List.getElem?_eq_none h] at hx
  have e : B.take (k + 1) = B.take k ++ [x] := by rw [List.take_add_one, hx]; rfl
  rw [e]
  unfold lastN
  have hl : (B.take k).length = k := by simp; omega
  by_cases h : k ≤ n
  · rw [show (B.take k).length - n = 0 by omega, List.drop_zero]
  · have e1 : (B.take k ++ [x]).length - n = k + 1 - n := by simp; omega
    rw [e1]
    by_cases h0 : n = 0
    · subst h0
      rw [List.drop_eq_nil_of_le (by simp), List.drop_eq_nil_of_le (by simp; omega)]
    · rw [List.drop_append_of_le_length (by simp; omega), List.drop_append_of_le_length (by omega), List.drop_drop]
      congr 2; simp; omega

set_option maxHeartbeats 8000000 in
theorem windowLast_walk (m ls : Int) (A1 : Option Addr) (l1 c1 : Nat) (xs : List Int) (w : World)
    (h1 : Sl w 1 (.slice A1 l1 c1) l1 (cellsOf .u8 xs)) :
    Calls Try.prog 6 #[.int .i64 m, .int .i64 ls, .slice A1 l1 c1] w fun e w' => e = .returned (.bool true) ∧ Below w.heap.size w w' := by
  obtain ⟨k1, hk1, hs1, hS1, hb1⟩ := cut_to (P := Try.prog) 22 5 Try.underlying22 Try.info_u8 h1 150 (by omega)
  have d0 : 0 ≤ m % 30 ∧ m % 30 < 30 := by omega
  obtain ⟨d1, d2⟩ := d0
  have hm : 0 < m ∨ m ≤ 0 := by omega
  have hll1 : (l1 : Int) ≤ 9223372036854775807 := by obtain ⟨_, _, e, _, h, h', _⟩ := h1; simp at e; unfold maxLen at h'; omega
  have hS1' : Sl w 1 (.slice A1 k1 c1) k1 (cellsOf .u8 (xs.take k1)) := by rw [Nat.mul_one, cellsOf_take] at hS1; exact hS1
  obtain ⟨B, hB⟩ : ∃ B, B = xs.take k1 := ⟨_, rfl⟩
  rw [← hB] at hS1'
  have hBl : B.length = k1 := by have := hS1'.len; simpa using this
  have hk1' : k1 ≤ 150 := by omega
  clear hS1 hb1 hk1 hB h1
  replace hS1' := Lib.hid hS1'
  replace hBl := Lib.hid hBl
  have hq : 150 < (l1 : Int) ∨ (l1 : Int) ≤ 150 := by omega
  rcases hm with hm | hm
  all_goals
    rcases hq with hq | hq
  all_goals
    (first | simp only [if_pos hq] at hs1 | simp only [if_neg (show ¬ (150 : Int) < l1 by omega)] at hs1)
    go_enter Try.func6, Try.ntmps6
    go_wp2_with fail
    (first | (have hm0 : 0 < m := hm; generalize hN : (2 + m % 30 : Int) = N; clear hm0) | generalize hN : (2 : Int) = N)
    have n1 : 2 ≤ N := by omega
    have n2 : N ≤ 31 := by omega
    clear hN hs1
    refine (new_any N w (by omega) (by omega)).mono ?_
    rintro e w1 ⟨g, rfl, hW1, hC1, hg1⟩
    go_wp2_with fail
    refine (alive_any _).mono ?_
    rintro e w2 ⟨rfl, hC2⟩
    have hW2 := hW1.chg hC2 (by simp) (by simp)
    have hC2' := hC1.trans hC2
    have hY2 : Young w g none := by intro x hx; simp at hx; omega
    clear hW1 hC1 hC2
    go_wp2_with fail
    go_loopw [40] (fun i wr => ∃ (k : Nat) (r : Option Nat) (t : Int) (h : Nat) (bs : List Int), k ≤ k1 ∧ i = .int .i64 k ∧ Win wr g r N t h bs ∧ Hid (bs = lastN N.toNat (B.take k)) ∧ Hid (t = k) ∧ Chg [] w wr ∧ Young w g r) (fun i _ => k1 - (intOf i).toNat)
    case atStart => exact ⟨0, none, 0, 0, [], by omega, rfl, hW2, (show [] = _ by simp [lastN]), rfl, hC2', hY2⟩
    case round =>
      obtain ⟨k, r, t, h, bs, hk, rfl, hW, hbs, ht, hC, hY⟩ := hrel
      by_cases hlt : k < k1
      · obtain ⟨bb, oo, x, rfl, hx, hcx⟩ := hS1'.out.at k hlt
        have hcx := hC.cell hcx (by simp)
        have ht1 := ht.out
        go_wp2_with fail
        refine (put_new wr g r N t h bs hW [x] 1 rfl (k + 1) (by omega) (lastN N.toNat (B.take (k + 1))) (by rw [hbs.out]; exact lastN_snoc _ _ _ _ hx) (by omega)).mono ?_
        rintro e w8 ⟨rfl, r8, h8, hW8, hr8, hC8⟩
        have hC8' := hY.chg hC hC8
        have hY8 := hY.step hC.size hr8
        clear hW hC hY hr8 hcx hx ht1
        -- the bytes told by the law itself
        obtain ⟨j, hj⟩ : ∃ j : Int, j = if N < (k : Int) + 1 then (k : Int) + 1 - N else 0 := ⟨_, rfl⟩
        have hj0 : 0 ≤ j ∧ j ≤ k + 1 := by rw [hj]; split <;> omega
        obtain ⟨n5, hn5⟩ : ∃ n5 : Nat, n5 = k + 1 - j.toNat := ⟨_, rfl⟩
        obtain ⟨A5, c5, hsl, hS5, -⟩ := slice_mid (P := Try.prog) 22 5 Try.underlying22 Try.info_u8 hS1'.out j ((k : Int) + 1) hj0.1 hj0.2 (by omega) n5 (by omega)
        have hS5' : Sl w 1 (.slice A5 n5 c5) n5 (cellsOf .u8 (lastN N.toNat (B.take (k + 1)))) := by
          rw [Nat.mul_one, Nat.mul_one, cellsOf_take, cellsOf_drop, show ((k : Int) + 1).toNat = k + 1 by omega] at hS5
          have hBl' := hBl.out
          have hbt : (B.take (k + 1)).length = k + 1 := by simp; omega
          have : (B.take (k + 1)).drop j.toNat = lastN N.toNat (B.take (k + 1)) := by
            unfold lastN; congr 1; rw [hbt, hj]; split <;> omega
          rw [← this]; exact hS5
        have hv5 : ∀ w', Chg [] w8 w' → (convert 22 9 (.slice A5 n5 c5)).run Try.prog w' = .ok (.string (strOfNums (lastN N.toNat (B.take (k + 1))))) w' := fun w' hc =>
          sl_string (hS5'.chg (hC8'.trans hc) (by simp)) 22 5 9 Try.underlying22 Try.underlying5 Try.underlying9
        rw [hj] at hsl
        have e1 : IntKind.i64.wrap ((k : Int) + 1 - N) = (k : Int) + 1 - N := IntWalk.i64_in _ (by omega)
        have e0 : IntKind.i64.wrap ((k : Int) + 1) = (k : Int) + 1 := IntWalk.i64_in _ (by omega)
        obtain ⟨bs8, hbs8⟩ : ∃ bs8, bs8 = lastN N.toNat (B.take (k + 1)) := ⟨_, rfl⟩
        rw [← hbs8] at hv5 hW8
        have hcb : ∀ w', Chg [] w8 w' → Calls Try.prog 12 #[.pointer (some ⟨g, 0, none⟩)] w' _ := fun w' hc => bytes_str w' g (hW8.chg hc (by simp) (by simp)) _ rfl _ rfl
        have hct : ∀ w', Chg [] w8 w' → Calls Try.prog 13 #[.pointer (some ⟨g, 0, none⟩)] w' _ := fun w' hc => total_any g w' (hW8.chg hc (by simp) (by simp))
        replace hv5 := Lib.hid hv5
        replace hcb := Lib.hid hcb
        replace hct := Lib.hid hct
        replace hW8 := Lib.hid hW8
        replace hC8' := Lib.hid hC8'
        replace hbs8 := Lib.hid hbs8
        have hk150 : (k : Int) + 1 ≤ 150 := by omega
        clear hS5 hS5' hj hj0 hn5 hC8 hbs ht
        go_wp2_with fail
        have e2 := e1
        refine wp_region_held (S := fun w' => Chg [] w8 w') (by kernel_rfl) ?_
        (try (change wpAnyH _ _ _ _ _ _ _ _ (World.drew _)))
        have hHeld : Chg [] w8 (World.drew w8) := (Chg.refl _ _).drew
        refine wpAnyH_take (i := 0) (v := ?_) rfl (by kernel_rfl) (by kernel_rfl) (by kernel_rfl) (fun _ _ _ h => h) (Or.inl ⟨by kernel_rfl, ?_⟩) (by exact hHeld) ?_
        rotate_left
        · (intro w hSw; clear hSw; go_simp; try with_reducible rfl)
        change wpAnyH _ _ _ _ _ _ _ (Act.put _ (some 49) _) _
        (try simp only [Act.put, List.setIfInBounds_toArray, List.set_cons_zero, List.set_cons_succ])
        refine wpAnyH_take (i := 3) (v := ?_) rfl (by kernel_rfl) (by kernel_rfl) (by kernel_rfl) (fun _ _ _ h => h) (Or.inl ⟨by kernel_rfl, ?_⟩) (by exact hHeld) ?_
        rotate_left
        · (intro w hSw; clear hSw; go_simp; try with_reducible rfl)
        change wpAnyH _ _ _ _ _ _ _ (Act.put _ (some 52) _) _
        (try simp only [Act.put, List.setIfInBounds_toArray, List.set_cons_zero, List.set_cons_succ])
        refine wpAnyH_take (i := 4) (v := ?_) rfl (by kernel_rfl) (by kernel_rfl) (by kernel_rfl) (fun _ _ _ h => h) (Or.inl ⟨by kernel_rfl, ?_⟩) (by exact hHeld) ?_
        rotate_left
        · (intro w hSw; clear hSw; go_simp; try with_reducible rfl)
        change wpAnyH _ _ _ _ _ _ _ (Act.put _ (some 53) _) _
        (try simp only [Act.put, List.setIfInBounds_toArray, List.set_cons_zero, List.set_cons_succ])
        refine wpAnyH_take (i := 5) (v := ?_) rfl (by kernel_rfl) (by kernel_rfl) (by kernel_rfl) (fun _ _ _ h => h) (Or.inl ⟨by kernel_rfl, ?_⟩) (by exact hHeld) ?_
        rotate_left
        · (intro w hSw; clear hSw; go_simp; try with_reducible rfl)
        change wpAnyH _ _ _ _ _ _ _ (Act.put _ (some 54) _) _
        (try simp only [Act.put, List.setIfInBounds_toArray, List.set_cons_zero, List.set_cons_succ])
        refine wpAnyH_take (i := 6) (v := ?_) rfl (by kernel_rfl) (by kernel_rfl) (by kernel_rfl) (fun _ _ _ h => h) (Or.inl ⟨by kernel_rfl, ?_⟩) (by exact hHeld) ?_
        rotate_left
        · (intro w hSw; clear hSw; go_simp; try with_reducible rfl)
        change wpAnyH _ _ _ _ _ _ _ (Act.put _ (some 55) _) _
        (try simp only [Act.put, List.setIfInBounds_toArray, List.set_cons_zero, List.set_cons_succ])
        refine wpAnyH_take (i := 7) (v := ?_) rfl (by kernel_rfl) (by kernel_rfl) (by kernel_rfl) (fun _ _ _ h => h) (Or.inl ⟨by kernel_rfl, ?_⟩) (by exact hHeld) ?_
        rotate_left
        · (intro w hSw; clear hSw; go_simp; try with_reducible rfl)
        change wpAnyH _ _ _ _ _ _ _ (Act.put _ (some 56) _) _
        (try simp only [Act.put, List.setIfInBounds_toArray, List.set_cons_zero, List.set_cons_succ])
        refine wpAnyH_take (i := 8) (v := ?_) rfl (by kernel_rfl) (by kernel_rfl) (by kernel_rfl) (fun _ _ _ h => h) (Or.inl ⟨by kernel_rfl, ?_⟩) (by exact hHeld) ?_
        rotate_left
        · (intro w hSw; clear hSw; go_simp; try with_reducible rfl)
        change wpAnyH _ _ _ _ _ _ _ (Act.put _ (some 57) _) _
        (try simp only [Act.put, List.setIfInBounds_toArray, List.set_cons_zero, List.set_cons_succ])
        refine wpAnyH_take (i := 9) (v := ?_) rfl (by kernel_rfl) (by kernel_rfl) (by kernel_rfl) (fun _ _ _ h => h) (Or.inl ⟨by kernel_rfl, ?_⟩) (by exact hHeld) ?_
        rotate_left
        · (intro w hSw; clear hSw; go_simp; try with_reducible rfl)
        change wpAnyH _ _ _ _ _ _ _ (Act.put _ (some 58) _) _
        (try simp only [Act.put, List.setIfInBounds_toArray, List.set_cons_zero, List.set_cons_succ])
        refine wpAnyH_take (i := 10) (v := ?_) rfl (by kernel_rfl) (by kernel_rfl) (by kernel_rfl) (fun _ _ _ h => h) (Or.inl ⟨by kernel_rfl, ?_⟩) (by exact hHeld) ?_
        rotate_left
        · (intro w hSw; clear hSw; go_simp; try with_reducible rfl)
        change wpAnyH _ _ _ _ _ _ _ (Act.put _ (some 59) _) _
        (try simp only [Act.put, List.setIfInBounds_toArray, List.set_cons_zero, List.set_cons_succ])
        refine wpAnyH_take (i := 11) (v := ?_) rfl (by kernel_rfl) (by kernel_rfl) (by kernel_rfl) (fun _ _ _ h => h) (Or.inl ⟨by kernel_rfl, ?_⟩) (by exact hHeld) ?_
        rotate_left
        · (intro w hSw; clear hSw; go_simp; try with_reducible rfl)
        change wpAnyH _ _ _ _ _ _ _ (Act.put _ (some 60) _) _
        (try simp only [Act.put, List.setIfInBounds_toArray, List.set_cons_zero, List.set_cons_succ])
        generalize (if N < (k : Int) + 1 then (k : Int) + 1 - N else 0) = z5
        refine wpAnyH_take (i := 12) (v := ?_) rfl (by kernel_rfl) (by kernel_rfl) (by kernel_rfl) (fun _ _ _ h => h) (Or.inl ⟨by kernel_rfl, ?_⟩) (by exact hHeld) ?_
        rotate_left
        · (intro w hSw; have hq := hv5.out w hSw; clear hSw; go_simp; try with_reducible rfl)
        change wpAnyH _ _ _ _ _ _ _ (Act.put _ (some 61) _) _
        (try simp only [Act.put, List.setIfInBounds_toArray, List.set_cons_zero, List.set_cons_succ])
        refine wpAnyH_all (rs := [1]) (by kernel_rfl) (by simp) ?_
        refine AllReadyH.cons rfl (fun K hK => ?_) ?_
        · go_simp
          go_wp2_with (first
              | (go_at_call_of 12 (Value.pointer (some ⟨g, 0, none⟩)); refine (hcb.out _ (by exact hHeld)).mono ?_; rintro e w9 ⟨A9, c9, rfl, hs9, -, hC9⟩)
              | (go_at_call_of 13 (Value.pointer (some ⟨g, 0, none⟩)); refine (hct.out _ (by exact hHeld)).mono ?_; rintro e w' ⟨rfl, rfl⟩))
          refine hK.out _ _ (by first | exact hHeld | exact Chg.trans hHeld (by assumption)) (fun hHeld => ?_)
          clear hK K
          (try simp only [Act.put, List.setIfInBounds_toArray, List.set_cons_zero, List.set_cons_succ])
          refine wpAnyH_all (rs := [2]) (by kernel_rfl) (by simp) ?_
          refine AllReadyH.cons rfl (fun K hK => ?_) ?_
          · go_simp
            refine hK.out _ _ (by first | exact hHeld | exact Chg.trans hHeld (by assumption)) (fun hHeld => ?_)
            clear hK K
            (try simp only [Act.put, List.setIfInBounds_toArray, List.set_cons_zero, List.set_cons_succ])
            refine wpAnyH_take (i := 13) (v := ?_) rfl (by kernel_rfl) (by kernel_rfl) (by kernel_rfl) (fun _ _ _ h => h) (Or.inl ⟨by kernel_rfl, ?_⟩) (by exact hHeld) ?_
            rotate_left
            · (intro w hSw; clear hSw; go_simp; try with_reducible rfl)
            change wpAnyH _ _ _ _ _ _ _ (Act.put _ (some 62) _) _
            (try simp only [Act.put, List.setIfInBounds_toArray, List.set_cons_zero, List.set_cons_succ])
            refine wpAnyH_take (i := 14) (v := ?_) rfl (by kernel_rfl) (by kernel_rfl) (by kernel_rfl) (fun _ _ _ h => h) (Or.inl ⟨by kernel_rfl, ?_⟩) (by exact hHeld) ?_
            rotate_left
            · (intro w hSw; clear hSw; go_simp; try with_reducible rfl)
            change wpAnyH _ _ _ _ _ _ _ (Act.put _ (some 63) _) _
            (try simp only [Act.put, List.setIfInBounds_toArray, List.set_cons_zero, List.set_cons_succ])
            refine wpAnyH_take (i := 15) (v := ?_) rfl (by kernel_rfl) (by kernel_rfl) (by kernel_rfl) (fun _ _ _ h => h) (Or.inl ⟨by kernel_rfl, ?_⟩) (by exact hHeld) ?_
            rotate_left
            · (intro w hSw; clear hSw; go_simp; try with_reducible rfl)
            change wpAnyH _ _ _ _ _ _ _ (Act.put _ (some 64) _) _
            (try simp only [Act.put, List.setIfInBounds_toArray, List.set_cons_zero, List.set_cons_succ])
            refine wpAnyH_take (i := 17) (v := ?_) rfl (by kernel_rfl) (by kernel_rfl) (by kernel_rfl) (fun _ _ _ h => h) (Or.inl ⟨by kernel_rfl, ?_⟩) (by exact hHeld) ?_
            rotate_left
            · (intro w hSw; clear hSw; go_simp; try with_reducible rfl)
            change wpAnyH _ _ _ _ _ _ _ (Act.put _ (some 66) _) _
            (try simp only [Act.put, List.setIfInBounds_toArray, List.set_cons_zero, List.set_cons_succ])
            refine wpAnyH_take (i := 18) (v := ?_) rfl (by kernel_rfl) (by kernel_rfl) (by kernel_rfl) (fun _ _ _ h => h) (Or.inl ⟨by kernel_rfl, ?_⟩) (by exact hHeld) ?_
            rotate_left
            · (intro w hSw; clear hSw; go_simp; try with_reducible rfl)
            change wpAnyH _ _ _ _ _ _ _ (Act.put _ (some 67) _) _
            (try simp only [Act.put, List.setIfInBounds_toArray, List.set_cons_zero, List.set_cons_succ])
            refine wpAnyH_all (rs := [16]) (by kernel_rfl) (by simp) ?_
            refine AllReadyH.cons rfl (fun K hK => ?_) ?_
            · go_simp
              go_wp2_with (first
                  | (go_at_call_of 12 (Value.pointer (some ⟨g, 0, none⟩)); refine (hcb.out _ (by exact hHeld)).mono ?_; rintro e w9 ⟨A9, c9, rfl, hs9, -, hC9⟩)
                  | (go_at_call_of 13 (Value.pointer (some ⟨g, 0, none⟩)); refine (hct.out _ (by exact hHeld)).mono ?_; rintro e w' ⟨rfl, rfl⟩))
              refine hK.out _ _ (by first | exact hHeld | exact Chg.trans hHeld (by assumption)) (fun hHeld => ?_)
              clear hK K
              (try simp only [Act.put, List.setIfInBounds_toArray, List.set_cons_zero, List.set_cons_succ])
              refine wpAnyH_take (i := 19) (v := ?_) rfl (by kernel_rfl) (by kernel_rfl) (by kernel_rfl) (fun _ _ _ h => h) (Or.inl ⟨by kernel_rfl, ?_⟩) (by exact hHeld) ?_
              rotate_left
              · (intro w hSw; clear hSw; go_simp; try with_reducible rfl)
              change wpAnyH _ _ _ _ _ _ _ (Act.put _ (some 68) _) _
              (try simp only [Act.put, List.setIfInBounds_toArray, List.set_cons_zero, List.set_cons_succ])
              refine wpAnyH_take (i := 20) (v := ?_) rfl (by kernel_rfl) (by kernel_rfl) (by kernel_rfl) (fun _ _ _ h => h) (Or.inl ⟨by kernel_rfl, ?_⟩) (by exact hHeld) ?_
              rotate_left
              · (intro w hSw; clear hSw; go_simp; try with_reducible rfl)
              change wpAnyH _ _ _ _ _ _ _ (Act.put _ (some 69) _) _
              (try simp only [Act.put, List.setIfInBounds_toArray, List.set_cons_zero, List.set_cons_succ])
              refine wpAnyH_done (by kernel_rfl) ?_ _
              (try simp only [Act.put, List.setIfInBounds_toArray, List.set_cons_zero, List.set_cons_succ])
              clear e0 e1 e2
              have hW9 := hW8.out.chg hHeld (by simp) (by simp)
              have hC9 := hC8'.out.trans hHeld
              clear hHeld
              go_wp2
              go_roundw
              case rel => exact ⟨k + 1, r8, (k : Int) + 1, h8, bs8, by omega, by go_num, hW9, hbs8.out, rfl, hC9, hY8⟩
              case measure => simp [intOf]; omega
            exact AllReadyH.nil
          exact AllReadyH.nil
        exact AllReadyH.nil
      · have hkl : k = k1 := by omega
        subst hkl
        have hbl : bs.length ≤ 31 ∧ bs.length ≤ k := by
          rw [hbs.out, lastN_length]
          have := hBl.out
          simp; omega
        obtain ⟨nb, hnb⟩ : ∃ nb, nb = bs.length := ⟨_, rfl⟩
        rw [← hnb] at hbl
        replace hnb := Lib.hid hnb
        obtain ⟨hbl1, hbl2⟩ := hbl
        go_wp2_with fail
        refine (bytes_str wr g hW nb hnb.out.symm _ rfl).mono ?_
        rintro e w5 ⟨A2, c2, rfl, -, ho5, hC5⟩
        have hW5 := hW.chg hC5 (by simp) (by simp)
        have hC5' := hC.trans hC5
        have ho5b : ∀ q, (Value.slice A2 nb c2).ownBlock = some q → q ≠ g := fun q hq => by
          have h1 := (ho5.lt q hq).1
          have h2 := hW.lt
          omega
        clear hW hC hC5
        go_wp2_with fail
        have hK0 : 1 ≤ wrap64 (1 + wrap64 ((IntKind.u64.wrap ls).tmod (N - 1))) ∧ wrap64 (1 + wrap64 ((IntKind.u64.wrap ls).tmod (N - 1))) ≤ N - 1 := by
          have h1 := Int.tmod_nonneg (N - 1) (u64_nonneg ls)
          have h2 := Int.tmod_lt_of_pos (IntKind.u64.wrap ls) (show (0 : Int) < N - 1 by omega)
          generalize (IntKind.u64.wrap ls).tmod (N - 1) = z at h1 h2
          unfold wrap64; omega
        generalize wrap64 (1 + wrap64 ((IntKind.u64.wrap ls).tmod (N - 1))) = K at hK0
        obtain ⟨hK1, hK2⟩ := hK0
        obtain ⟨b6, hb6⟩ : ∃ b6, b6 = lastN K.toNat bs := ⟨_, rfl⟩
        have hb6l : (b6.length : Int) ≤ 2 * N := by
          rw [hb6, lastN_length]; have := hnb.out; omega
        obtain ⟨n6, hn6⟩ : ∃ n6 : Int, n6 = b6.length := ⟨_, rfl⟩
        rw [← hn6] at hb6l
        obtain ⟨j, hj⟩ : ∃ j : Int, j = if K < (nb : Int) then (nb : Int) - K else 0 := ⟨_, rfl⟩
        have hj0 : 0 ≤ j ∧ j ≤ nb := by rw [hj]; split <;> omega
        obtain ⟨n5, hn5⟩ : ∃ n5 : Nat, n5 = nb - j.toNat := ⟨_, rfl⟩
        obtain ⟨A5, c5, hsl, hS5, hbk5⟩ := slice_from (P := Try.prog) 22 5 Try.underlying22 Try.info_u8 (own_sl ho5) j hj0.1 n5 (by omega)
        have hS5' : Sl w5 1 (.slice A5 n5 c5) n5 (cellsOf .u8 b6) := by
          rw [Nat.mul_one, cellsOf_drop] at hS5
          have : bs.drop j.toNat = b6 := by
            rw [hb6]; unfold lastN; congr 1; rw [hj, ← hnb.out]; split <;> omega
          rw [← this]; exact hS5
        have ht1 : t = k := ht.out
        have hv5 : ∀ w6 w', Chg [g] w5 w6 → Chg [] w6 w' → (convert 22 9 (.slice A5 n5 c5)).run Try.prog w' = .ok (.string (strOfNums b6)) w' := fun w6 w' h6 hc =>
          sl_string ((hS5'.chg h6 (fun _ q hq hm => by simp at hm; exact ho5b q (by rw [← hbk5]; exact hq) hm)).chg hc (by simp)) 22 5 9 Try.underlying22 Try.underlying5 Try.underlying9
        have hgy := hY g (by simp)
        have hcm : ∀ w', Chg [] w5 w' → Calls Try.prog 15 #[.pointer (some ⟨g, 0, none⟩), .int .i64 K] w' fun e w'' => e = .returned (.int .i64 0) ∧ ∃ r', Win w'' g r' K k b6.length b6 ∧ Chg [g] w5 w'' ∧ Chg [] w w'' := fun w' hc => by
          refine (most_good w' g r N t h bs (hW5.chg hc (by simp) (by simp)) K hK1 (by omega)).mono ?_
          rintro e w'' ⟨he, r', hW, hr, hC⟩
          rw [← hb6, ht1] at hW
          exact ⟨he, r', hW, (hc.mono (S1 := [g]) (by simp)).trans hC, (hC5'.trans hc).then hC (by intro x hx; simp at hx; right; omega)⟩
        rw [hj] at hsl
        have e1 : IntKind.i64.wrap ((nb : Int) - K) = (nb : Int) - K := IntWalk.i64_in _ (by omega)
        replace hv5 := Lib.hid hv5
        replace hcm := Lib.hid hcm
        replace hn6 := Lib.hid hn6
        clear hW5 hS5 hS5' hj hj0 hn5 hbk5 ho5 ho5b hC5' hY hgy hb6 hbs ht ht1
        have e2 := e1
        refine wp_region_any (by kernel_rfl) ?_
        (try (change wpAny _ _ _ _ _ _ _ (World.drew _)))
        refine wpAny_take (i := 0) (v := ?_) rfl (by kernel_rfl) (by kernel_rfl) (by kernel_rfl) (fun _ _ _ h => h) (Or.inl ⟨by kernel_rfl, ?_⟩) ?_
        rotate_left
        · (intro w; go_simp; try with_reducible rfl)
        change wpAny _ _ _ _ _ _ (Act.put _ (some 81) _) _
        (try simp only [Act.put, List.setIfInBounds_toArray, List.set_cons_zero, List.set_cons_succ])
        refine wpAny_take (i := 1) (v := ?_) rfl (by kernel_rfl) (by kernel_rfl) (by kernel_rfl) (fun _ _ _ h => h) (Or.inl ⟨by kernel_rfl, ?_⟩) ?_
        rotate_left
        · (intro w; go_simp; try with_reducible rfl)
        change wpAny _ _ _ _ _ _ (Act.put _ (some 82) _) _
        (try simp only [Act.put, List.setIfInBounds_toArray, List.set_cons_zero, List.set_cons_succ])
        refine wpAny_ready (rs := [2]) (by kernel_rfl) (by simp) ?_
        refine AllReady.cons rfl (fun K hK => ?_) ?_
        · go_simp
          go_wp2_with (first
              | (go_at_call 15; refine (hcm.out _ (by exact (Chg.refl _ _).drew)).mono ?_; rintro e w6 ⟨rfl, r6, hW6, hC6, hC6'⟩; have hv6 := Lib.hid (fun w' hc => hv5.out w6 w' hC6 hc); have hcb : Hid (∀ w', Chg [] w6 w' → Calls Try.prog 12 #[.pointer (some ⟨g, 0, none⟩)] w' _) := fun w' hc => bytes_str w' g (hW6.chg hc (by simp) (by simp)) _ rfl _ rfl; have hct : Hid (∀ w', Chg [] w6 w' → Calls Try.prog 13 #[.pointer (some ⟨g, 0, none⟩)] w' _) := fun w' hc => total_any g w' (hW6.chg hc (by simp) (by simp)); replace hW6 := Lib.hid hW6; replace hC6' := Lib.hid hC6'; clear hC6 hcm hv5)
              | (go_at_call 12; refine (hcb.out _ (by exact hHeld)).mono ?_; rintro e w9 ⟨A9, c9, rfl, hs9, -, hC9⟩)
              | (go_at_call 13; refine (hct.out _ (by exact hHeld)).mono ?_; rintro e w' ⟨rfl, rfl⟩))
          (try (refine hK _ _ ?_; clear hK K))
          (try simp only [Act.put, List.setIfInBounds_toArray, List.set_cons_zero, List.set_cons_succ])
          have hHeld : Chg [] w6 w6 := Chg.refl _ _
          refine wpAny_of_held (S := fun w' => Chg [] w6 w') _ _ _ _ ?_
          refine wpAnyH_take (i := 3) (v := ?_) rfl (by kernel_rfl) (by kernel_rfl) (by kernel_rfl) (fun _ _ _ h => h) (Or.inl ⟨by kernel_rfl, ?_⟩) (by exact hHeld) ?_
          rotate_left
          · (intro w hSw; clear hSw; go_simp; try with_reducible rfl)
          change wpAnyH _ _ _ _ _ _ _ (Act.put _ (some 84) _) _
          (try simp only [Act.put, List.setIfInBounds_toArray, List.set_cons_zero, List.set_cons_succ])
          refine wpAnyH_take (i := 4) (v := ?_) rfl (by kernel_rfl) (by kernel_rfl) (by kernel_rfl) (fun _ _ _ h => h) (Or.inl ⟨by kernel_rfl, ?_⟩) (by exact hHeld) ?_
          rotate_left
          · (intro w hSw; clear hSw; go_simp; try with_reducible rfl)
          change wpAnyH _ _ _ _ _ _ _ (Act.put _ (some 85) _) _
          (try simp only [Act.put, List.setIfInBounds_toArray, List.set_cons_zero, List.set_cons_succ])
          refine wpAnyH_take (i := 5) (v := ?_) rfl (by kernel_rfl) (by kernel_rfl) (by kernel_rfl) (fun _ _ _ h => h) (Or.inl ⟨by kernel_rfl, ?_⟩) (by exact hHeld) ?_
          rotate_left
          · (intro w hSw; clear hSw; go_simp; try with_reducible rfl)
          change wpAnyH _ _ _ _ _ _ _ (Act.put _ (some 86) _) _
          (try simp only [Act.put, List.setIfInBounds_toArray, List.set_cons_zero, List.set_cons_succ])
          refine wpAnyH_take (i := 8) (v := ?_) rfl (by kernel_rfl) (by kernel_rfl) (by kernel_rfl) (fun _ _ _ h => h) (Or.inl ⟨by kernel_rfl, ?_⟩) (by exact hHeld) ?_
          rotate_left
          · (intro w hSw; clear hSw; go_simp; try with_reducible rfl)
          change wpAnyH _ _ _ _ _ _ _ (Act.put _ (some 89) _) _
          (try simp only [Act.put, List.setIfInBounds_toArray, List.set_cons_zero, List.set_cons_succ])
          refine wpAnyH_take (i := 9) (v := ?_) rfl (by kernel_rfl) (by kernel_rfl) (by kernel_rfl) (fun _ _ _ h => h) (Or.inl ⟨by kernel_rfl, ?_⟩) (by exact hHeld) ?_
          rotate_left
          · (intro w hSw; clear hSw; go_simp; try with_reducible rfl)
          change wpAnyH _ _ _ _ _ _ _ (Act.put _ (some 90) _) _
          (try simp only [Act.put, List.setIfInBounds_toArray, List.set_cons_zero, List.set_cons_succ])
          refine wpAnyH_take (i := 10) (v := ?_) rfl (by kernel_rfl) (by kernel_rfl) (by kernel_rfl) (fun _ _ _ h => h) (Or.inl ⟨by kernel_rfl, ?_⟩) (by exact hHeld) ?_
          rotate_left
          · (intro w hSw; clear hSw; go_simp; try with_reducible rfl)
          change wpAnyH _ _ _ _ _ _ _ (Act.put _ (some 91) _) _
          (try simp only [Act.put, List.setIfInBounds_toArray, List.set_cons_zero, List.set_cons_succ])
          refine wpAnyH_take (i := 11) (v := ?_) rfl (by kernel_rfl) (by kernel_rfl) (by kernel_rfl) (fun _ _ _ h => h) (Or.inl ⟨by kernel_rfl, ?_⟩) (by exact hHeld) ?_
          rotate_left
          · (intro w hSw; clear hSw; go_simp; try with_reducible rfl)
          change wpAnyH _ _ _ _ _ _ _ (Act.put _ (some 92) _) _
          (try simp only [Act.put, List.setIfInBounds_toArray, List.set_cons_zero, List.set_cons_succ])
          refine wpAnyH_take (i := 12) (v := ?_) rfl (by kernel_rfl) (by kernel_rfl) (by kernel_rfl) (fun _ _ _ h => h) (Or.inl ⟨by kernel_rfl, ?_⟩) (by exact hHeld) ?_
          rotate_left
          · (intro w hSw; clear hSw; go_simp; try with_reducible rfl)
          change wpAnyH _ _ _ _ _ _ _ (Act.put _ (some 93) _) _
          (try simp only [Act.put, List.setIfInBounds_toArray, List.set_cons_zero, List.set_cons_succ])
          refine wpAnyH_take (i := 13) (v := ?_) rfl (by kernel_rfl) (by kernel_rfl) (by kernel_rfl) (fun _ _ _ h => h) (Or.inl ⟨by kernel_rfl, ?_⟩) (by exact hHeld) ?_
          rotate_left
          · (intro w hSw; clear hSw; go_simp; try with_reducible rfl)
          change wpAnyH _ _ _ _ _ _ _ (Act.put _ (some 94) _) _
          (try simp only [Act.put, List.setIfInBounds_toArray, List.set_cons_zero, List.set_cons_succ])
          refine wpAnyH_take (i := 14) (v := ?_) rfl (by kernel_rfl) (by kernel_rfl) (by kernel_rfl) (fun _ _ _ h => h) (Or.inl ⟨by kernel_rfl, ?_⟩) (by exact hHeld) ?_
          rotate_left
          · (intro w hSw; clear hSw; go_simp; try with_reducible rfl)
          change wpAnyH _ _ _ _ _ _ _ (Act.put _ (some 95) _) _
          (try simp only [Act.put, List.setIfInBounds_toArray, List.set_cons_zero, List.set_cons_succ])
          generalize (if K < (nb : Int) then (nb : Int) - K else 0) = z5
          refine wpAnyH_take (i := 15) (v := ?_) rfl (by kernel_rfl) (by kernel_rfl) (by kernel_rfl) (fun _ _ _ h => h) (Or.inl ⟨by kernel_rfl, ?_⟩) (by exact hHeld) ?_
          rotate_left
          · (intro w hSw; have hq := hv6.out w hSw; clear hSw; go_simp; try with_reducible rfl)
          change wpAnyH _ _ _ _ _ _ _ (Act.put _ (some 96) _) _
          (try simp only [Act.put, List.setIfInBounds_toArray, List.set_cons_zero, List.set_cons_succ])
          refine wpAnyH_all (rs := [6]) (by kernel_rfl) (by simp) ?_
          refine AllReadyH.cons rfl (fun K hK => ?_) ?_
          · go_simp
            go_wp2_with (first
                | (go_at_call 15; refine (hcm.out _ (by exact (Chg.refl _ _).drew)).mono ?_; rintro e w6 ⟨rfl, r6, hW6, hC6, hC6'⟩; have hv6 := Lib.hid (fun w' hc => hv5.out w6 w' hC6 hc); have hcb : Hid (∀ w', Chg [] w6 w' → Calls Try.prog 12 #[.pointer (some ⟨g, 0, none⟩)] w' _) := fun w' hc => bytes_str w' g (hW6.chg hc (by simp) (by simp)) _ rfl _ rfl; have hct : Hid (∀ w', Chg [] w6 w' → Calls Try.prog 13 #[.pointer (some ⟨g, 0, none⟩)] w' _) := fun w' hc => total_any g w' (hW6.chg hc (by simp) (by simp)); replace hW6 := Lib.hid hW6; replace hC6' := Lib.hid hC6'; clear hC6 hcm hv5)
                | (go_at_call 12; refine (hcb.out _ (by exact hHeld)).mono ?_; rintro e w9 ⟨A9, c9, rfl, hs9, -, hC9⟩)
                | (go_at_call 13; refine (hct.out _ (by exact hHeld)).mono ?_; rintro e w' ⟨rfl, rfl⟩))
            refine hK.out _ _ (by first | exact hHeld | exact Chg.trans hHeld (by assumption)) (fun hHeld => ?_)
            clear hK K
            (try simp only [Act.put, List.setIfInBounds_toArray, List.set_cons_zero, List.set_cons_succ])
            refine wpAnyH_all (rs := [7]) (by kernel_rfl) (by simp) ?_
            refine AllReadyH.cons rfl (fun K hK => ?_) ?_
            · go_simp
              refine hK.out _ _ (by first | exact hHeld | exact Chg.trans hHeld (by assumption)) (fun hHeld => ?_)
              clear hK K
              (try simp only [Act.put, List.setIfInBounds_toArray, List.set_cons_zero, List.set_cons_succ])
              refine wpAnyH_take (i := 16) (v := ?_) rfl (by kernel_rfl) (by kernel_rfl) (by kernel_rfl) (fun _ _ _ h => h) (Or.inl ⟨by kernel_rfl, ?_⟩) (by exact hHeld) ?_
              rotate_left
              · (intro w hSw; clear hSw; go_simp; try with_reducible rfl)
              change wpAnyH _ _ _ _ _ _ _ (Act.put _ (some 97) _) _
              (try simp only [Act.put, List.setIfInBounds_toArray, List.set_cons_zero, List.set_cons_succ])
              refine wpAnyH_take (i := 17) (v := ?_) rfl (by kernel_rfl) (by kernel_rfl) (by kernel_rfl) (fun _ _ _ h => h) (Or.inl ⟨by kernel_rfl, ?_⟩) (by exact hHeld) ?_
              rotate_left
              · (intro w hSw; clear hSw; go_simp; try with_reducible rfl)
              change wpAnyH _ _ _ _ _ _ _ (Act.put _ (some 98) _) _
              (try simp only [Act.put, List.setIfInBounds_toArray, List.set_cons_zero, List.set_cons_succ])
              refine wpAnyH_take (i := 18) (v := ?_) rfl (by kernel_rfl) (by kernel_rfl) (by kernel_rfl) (fun _ _ _ h => h) (Or.inl ⟨by kernel_rfl, ?_⟩) (by exact hHeld) ?_
              rotate_left
              · (intro w hSw; clear hSw; go_simp; try with_reducible rfl)
              change wpAnyH _ _ _ _ _ _ _ (Act.put _ (some 99) _) _
              (try simp only [Act.put, List.setIfInBounds_toArray, List.set_cons_zero, List.set_cons_succ])
              refine wpAnyH_take (i := 19) (v := ?_) rfl (by kernel_rfl) (by kernel_rfl) (by kernel_rfl) (fun _ _ _ h => h) (Or.inl ⟨by kernel_rfl, ?_⟩) (by exact hHeld) ?_
              rotate_left
              · (intro w hSw; clear hSw; go_simp; try with_reducible rfl)
              change wpAnyH _ _ _ _ _ _ _ (Act.put _ (some 100) _) _
              (try simp only [Act.put, List.setIfInBounds_toArray, List.set_cons_zero, List.set_cons_succ])
              refine wpAnyH_take (i := 21) (v := ?_) rfl (by kernel_rfl) (by kernel_rfl) (by kernel_rfl) (fun _ _ _ h => h) (Or.inl ⟨by kernel_rfl, ?_⟩) (by exact hHeld) ?_
              rotate_left
              · (intro w hSw; clear hSw; go_simp; try with_reducible rfl)
              change wpAnyH _ _ _ _ _ _ _ (Act.put _ (some 102) _) _
              (try simp only [Act.put, List.setIfInBounds_toArray, List.set_cons_zero, List.set_cons_succ])
              refine wpAnyH_take (i := 22) (v := ?_) rfl (by kernel_rfl) (by kernel_rfl) (by kernel_rfl) (fun _ _ _ h => h) (Or.inl ⟨by kernel_rfl, ?_⟩) (by exact hHeld) ?_
              rotate_left
              · (intro w hSw; clear hSw; go_simp; try with_reducible rfl)
              change wpAnyH _ _ _ _ _ _ _ (Act.put _ (some 103) _) _
              (try simp only [Act.put, List.setIfInBounds_toArray, List.set_cons_zero, List.set_cons_succ])
              refine wpAnyH_all (rs := [20]) (by kernel_rfl) (by simp) ?_
              refine AllReadyH.cons rfl (fun K hK => ?_) ?_
              · go_simp
                go_wp2_with (first
                    | (go_at_call 15; refine (hcm.out _ (by exact (Chg.refl _ _).drew)).mono ?_; rintro e w6 ⟨rfl, r6, hW6, hC6, hC6'⟩; have hv6 := Lib.hid (fun w' hc => hv5.out w6 w' hC6 hc); have hcb : Hid (∀ w', Chg [] w6 w' → Calls Try.prog 12 #[.pointer (some ⟨g, 0, none⟩)] w' _) := fun w' hc => bytes_str w' g (hW6.chg hc (by simp) (by simp)) _ rfl _ rfl; have hct : Hid (∀ w', Chg [] w6 w' → Calls Try.prog 13 #[.pointer (some ⟨g, 0, none⟩)] w' _) := fun w' hc => total_any g w' (hW6.chg hc (by simp) (by simp)); replace hW6 := Lib.hid hW6; replace hC6' := Lib.hid hC6'; clear hC6 hcm hv5)
                    | (go_at_call 12; refine (hcb.out _ (by exact hHeld)).mono ?_; rintro e w9 ⟨A9, c9, rfl, hs9, -, hC9⟩)
                    | (go_at_call 13; refine (hct.out _ (by exact hHeld)).mono ?_; rintro e w' ⟨rfl, rfl⟩))
                refine hK.out _ _ (by first | exact hHeld | exact Chg.trans hHeld (by assumption)) (fun hHeld => ?_)
                clear hK K
                (try simp only [Act.put, List.setIfInBounds_toArray, List.set_cons_zero, List.set_cons_succ])
                refine wpAnyH_take (i := 23) (v := ?_) rfl (by kernel_rfl) (by kernel_rfl) (by kernel_rfl) (fun _ _ _ h => h) (Or.inl ⟨by kernel_rfl, ?_⟩) (by exact hHeld) ?_
                rotate_left
                · (intro w hSw; clear hSw; go_simp; try with_reducible rfl)
                change wpAnyH _ _ _ _ _ _ _ (Act.put _ (some 104) _) _
                (try simp only [Act.put, List.setIfInBounds_toArray, List.set_cons_zero, List.set_cons_succ])
                refine wpAnyH_take (i := 24) (v := ?_) rfl (by kernel_rfl) (by kernel_rfl) (by kernel_rfl) (fun _ _ _ h => h) (Or.inl ⟨by kernel_rfl, ?_⟩) (by exact hHeld) ?_
                rotate_left
                · (intro w hSw; clear hSw; go_simp; try with_reducible rfl)
                change wpAnyH _ _ _ _ _ _ _ (Act.put _ (some 105) _) _
                (try simp only [Act.put, List.setIfInBounds_toArray, List.set_cons_zero, List.set_cons_succ])
                refine wpAnyH_done (by kernel_rfl) ?_ _
                (try simp only [Act.put, List.setIfInBounds_toArray, List.set_cons_zero, List.set_cons_succ])
                clear e1 e2
                have hW9 := hW6.out.chg hHeld (by simp) (by simp)
                have hC9 := hC6'.out.trans hHeld
                clear hHeld
                go_wp2_with fail
                refine (held_any g _ hW9).mono ?_
                rw [← hn6.out]
                rintro e w' ⟨rfl, rfl⟩
                go_wp2
                go_ret
                exact ⟨rfl, hC9.below⟩
              exact AllReadyH.nil
            exact AllReadyH.nil
          exact AllReadyH.nil
        exact AllReady.nil
end Go.Proofs.Ytjfbbobaghdocaa
