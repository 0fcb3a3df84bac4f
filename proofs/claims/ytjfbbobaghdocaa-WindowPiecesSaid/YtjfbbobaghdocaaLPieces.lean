/- WindowPieces: the walk. No condition. -/
import Derived.Test.YtjfbbobaghdocaaWinLaw
import Derived.Test.YtjfbbobaghdocaaLib2
import Derived.Deep.LoopGhost
import Derived.Deep.RegionHeld3
set_option linter.unusedVariables false
set_option linter.unusedSimpArgs false
namespace Go.Proofs.Ytjfbbobaghdocaa
open Go.RowKit

theorem lastN_append (n : Nat) (a b : List Int) : lastN n (lastN n a ++ b) = lastN n (a ++ b) := by
  unfold lastN
  by_cases h : a.length ≤ n
  · rw [show a.length - n = 0 by omega, List.drop_zero]
  · by_cases h2 : b.length ≤ n
    · rw [List.drop_append_of_le_length (by simp; omega), List.drop_append_of_le_length (by simp; omega), List.drop_drop]
      congr 2; simp; omega
    · rw [List.drop_append, List.drop_append, List.drop_drop]
      congr 1
      · rw [List.drop_eq_nil_of_le (by simp; omega), List.drop_eq_nil_of_le (by simp; omega)]
      · congr 1; simp; omega

theorem u64_nonneg (x : Int) : 0 ≤ IntKind.u64.wrap x := by
  simp only [IntKind.wrap]; first | omega | (split <;> omega) | exact Int.emod_nonneg _ (by decide)

theorem lastN_zero (n : Nat) (B : List Int) : Hid ([] = lastN n (B.take 0)) := by show [] = _; simp [lastN]

set_option maxHeartbeats 8000000 in
theorem windowPieces_walk (m : Int) (A1 A2 : Option Addr) (l1 c1 l2 c2 : Nat) (xs cs : List Int) (w : World)
    (h1 : Sl w 1 (.slice A1 l1 c1) l1 (cellsOf .u8 xs)) (h2 : Sl w 1 (.slice A2 l2 c2) l2 (cellsOf .i64 cs)) (hcs : ∀ n ∈ cs, -9223372036854775808 ≤ n ∧ n ≤ 9223372036854775807) :
    Calls Try.prog 3 #[.int .i64 m, .slice A1 l1 c1, .slice A2 l2 c2] w fun e w' => e = .returned (.bool true) ∧ Below w.heap.size w w' := by
  obtain ⟨k1, hk1, hs1, hS1, hb1⟩ := cut_to (P := Try.prog) 22 5 Try.underlying22 Try.info_u8 h1 300 (by omega)
  have d0 : 0 ≤ m % 30 ∧ m % 30 < 30 := by omega
  obtain ⟨d1, d2⟩ := d0
  have hm : 0 < m ∨ m ≤ 0 := by omega
  have hll1 : (l1 : Int) ≤ 9223372036854775807 := by obtain ⟨_, _, e, _, h, h', _⟩ := h1; simp at e; unfold maxLen at h'; omega
  have hll2 : (l2 : Int) ≤ 9223372036854775807 := by obtain ⟨_, _, e, _, h, h', _⟩ := h2; simp at e; unfold maxLen at h'; omega
  have hv1 : 0 < (xs.take k1).length → ∀ q, (Value.slice A1 k1 c1).ownBlock = some q → q < w.heap.size := fun h0 q hq => h1.lt (by simp at h0; omega) q (by rw [← hb1]; exact hq)
  have hS1' : Sl w 1 (.slice A1 k1 c1) k1 (cellsOf .u8 (xs.take k1)) := by rw [Nat.mul_one, cellsOf_take] at hS1; exact hS1
  obtain ⟨B, hB⟩ : ∃ B, B = xs.take k1 := ⟨_, rfl⟩
  rw [← hB] at hS1' hv1
  have hBl : B.length = k1 := by have := hS1'.len; simpa using this
  have hk1' : k1 ≤ 300 := by omega
  clear hS1 hb1 hk1 hB h1
  replace hS1' := Lib.hid hS1'
  replace h2 := Lib.hid h2
  replace hBl := Lib.hid hBl
  have hq : 300 < (l1 : Int) ∨ (l1 : Int) ≤ 300 := by omega
  rcases hm with hm | hm
  all_goals
    rcases hq with hq | hq
  all_goals
    (first | simp only [if_pos hq] at hs1 | simp only [if_neg (show ¬ (300 : Int) < l1 by omega)] at hs1)
    go_enter Try.func3, Try.ntmps3
    go_wp2_with fail
    (first | (have hm0 : 0 < m := hm; generalize hN : (1 + m % 30 : Int) = N; clear hm0) | generalize hN : (1 : Int) = N)
    have n1 : 1 ≤ N := by omega
    have n2 : N ≤ 30 := by omega
    clear hN
    refine (new_any N w (by omega) (by omega)).mono ?_
    rintro e w1 ⟨g1, rfl, hW1, hC1, hg1⟩
    go_wp2_with fail
    refine (new_any N w1 (by omega) (by omega)).mono ?_
    rintro e w2 ⟨g2, rfl, hV2, hC2, hg2⟩
    have hA2 : Apart g1 none g2 none := by
      have := hW1.lt.1
      intro x hx hy; simp at hx hy; omega
    have hY1 : Young w g1 none := by intro x hx; simp at hx; omega
    have hY2 : Young w g2 none := by have := hC1.size; intro x hx; simp at hx; omega
    have hW2 := hW1.chg hC2 (by simp) (by simp)
    replace hC2 := hC1.trans hC2
    clear hW1 hC1
    go_wp2_with fail
    refine (alive_any _).mono ?_
    rintro e w3 ⟨rfl, hC3⟩
    have hW3 := hW2.chg hC3 (by simp) (by simp)
    have hV3 := hV2.chg hC3 (by simp) (by simp)
    replace hC3 := hC2.trans hC3
    clear hW2 hV2 hC2
    go_wp2_with fail
    refine (put_h w w3 g1 none _ _ _ _ hW3 _ _ _ (hS1'.out.chg hC3 (by simp)) hv1 hC3 hY1 (by have := hBl.out; omega)).mono ?_
    rintro e w4 ⟨rfl, r4, h4, b4, t4, hW4, hb4, ht4, hr4, hC4, hY4, hC4'⟩
    have hA4 := hA2.step hV3 hr4
    have hV4 := hV3.keep hC4 hA2.symm
    clear hW3 hV3 hC4 hC3 hA2 hY1 hr4
    have hN2 := hW4.bounds.2.2.1
    go_wp2_with fail
    go_loopw [12, 59] (fun v i wr => ∃ (k d : Nat) (Ar : Option Addr) (n cr : Nat), k ≤ l2 ∧ i = .int .i64 k ∧ d + n = k1 ∧ v = .slice Ar n cr ∧ Sl wr 1 (.slice Ar n cr) n (cellsOf .u8 (B.drop d)) ∧
        (0 < (B.drop d).length → ∀ q, (Value.slice Ar n cr).ownBlock = some q → q < w.heap.size) ∧
        ∃ r2 t2 h2 b2, Win wr g2 r2 N t2 h2 b2 ∧ Hid (b2 = lastN N.toNat (B.take d)) ∧ Hid (t2 = d) ∧ Win wr g1 r4 N t4 h4 b4 ∧ Chg [] w wr ∧ Apart g1 r4 g2 r2 ∧ Young w g2 r2)
      (fun _ i _ => l2 - (intOf i).toNat)
    case atStart =>
      exact ⟨0, 0, A1, k1, c1, by omega, rfl, by omega, rfl, hS1'.out.chg hC4' (by simp), hv1, none, 0, 0, [], hV4, lastN_zero _ _, rfl, hW4, hC4', hA4, hY2⟩
    case round =>
      obtain ⟨k, d, Ar, n, cr, hk, rfl, hdn, rfl, hSr, hvr, r2, t2, h2', b2, hV, hb2, ht2, hW, hC, hA, hY⟩ := hrel
      by_cases hlt : k < l2
      · obtain ⟨bb, oo, x, rfl, hx, hcx⟩ := h2.out.at k hlt
        have hcx := hC.cell hcx (by simp)
        have hx2 := hcs x (List.mem_of_getElem? hx)
        obtain ⟨hx3, hx4⟩ := hx2
        have hn0 : n ≤ 300 := by omega
        clear hx
        obtain ⟨kk, hkk, hkn⟩ : ∃ kk : Nat, wrap64 ((IntKind.u64.wrap x).tmod ((n : Int) + 1)) = kk ∧ kk ≤ n := by
          have h0 : 0 ≤ IntKind.u64.wrap x := u64_nonneg x
          have h1 := Int.tmod_nonneg ((n : Int) + 1) h0
          have h2 := Int.tmod_lt_of_pos (IntKind.u64.wrap x) (show (0 : Int) < (n : Int) + 1 by omega)
          refine ⟨((IntKind.u64.wrap x).tmod ((n : Int) + 1)).toNat, ?_, by omega⟩
          rw [Int.toNat_of_nonneg h1]
          unfold wrap64; omega
        have hlr := hSr.len
        obtain ⟨hsa, hSa, hba⟩ := slice_upto (P := Try.prog) 22 5 Try.underlying22 Try.info_u8 hSr kk (by omega) kk rfl hkn
        obtain ⟨n3, hn3⟩ : ∃ n3, n3 = n - kk := ⟨_, rfl⟩
        obtain ⟨A3, c3, hsb, hSb, hbb⟩ := slice_from (P := Try.prog) 22 5 Try.underlying22 Try.info_u8 hSr kk (by omega) n3 (by omega)
        have hSa' : Sl wr 1 (.slice Ar kk cr) kk (cellsOf .u8 ((B.drop d).take kk)) := by rw [Nat.mul_one, cellsOf_take] at hSa; exact hSa
        have hSb' : Sl wr 1 (.slice A3 n3 c3) n3 (cellsOf .u8 (B.drop (d + kk))) := by
          rw [Nat.mul_one, cellsOf_drop, List.drop_drop] at hSb; simpa using hSb
        have hBl' := hBl.out
        have hva : 0 < ((B.drop d).take kk).length → ∀ q, (Value.slice Ar kk cr).ownBlock = some q → q < w.heap.size := fun h0 q hq => hvr (by simp at h0 ⊢; omega) q (by rw [← hba]; exact hq)
        have hvb : 0 < (B.drop (d + kk)).length → ∀ q, (Value.slice A3 n3 c3).ownBlock = some q → q < w.heap.size := fun h0 q hq => hvr (by simp at h0 ⊢; omega) q (by rw [← hbb]; exact hq)
        have hlk : ((B.drop d).take kk).length = kk := by simp; omega
        have hkn1 : (kk : Int) ≤ n := by omega
        have hn31 : d + kk + n3 = k1 := by omega
        have ht2' : t2 + ((B.drop d).take kk).length ≤ 1152921504606846976 := by have := ht2.out; omega
        replace hSa' := Lib.hid hSa'
        replace hSb' := Lib.hid hSb'
        replace hva := Lib.hid hva
        replace hvb := Lib.hid hvb
        replace hlk := Lib.hid hlk
        replace hn31 := Lib.hid hn31
        replace ht2' := Lib.hid ht2'
        clear hSa hSb hba hbb hSr hvr hBl' hlr hdn hn3 hkn hx3 hx4
        go_wp2_with (go_at_call 11; refine (put_h w wr g2 r2 _ _ _ _ hV _ _ _ hSa'.out hva.out hC hY ht2'.out).mono ?_; rintro e w5 ⟨rfl, r5, h5, b5, t5, hV5, hb5, ht5, hr5, hC5, hY5, hC5'⟩)
        go_roundw
        case rel =>
          refine ⟨k + 1, d + kk, A3, n3, c3, by omega, by go_num, hn31.out, rfl, hSb'.out.chg hC5 (fun h0 q hq hm => ?_), hvb.out, r5, t5, h5, b5, hV5, ?_, ?_, hW.keep hC5 hA, hC5', (hA.symm.step hW hr5).symm, hY5⟩
          · have := hvb.out (by simpa using h0) q hq
            have := hY q hm; omega
          · show _ = _
            rw [hb5.out, hb2.out, lastN_append]
            congr 1
            rw [List.take_add]
          · show _ = _
            rw [ht5.out, ht2.out, hlk.out]; omega
        case measure => simp [intOf]; omega
      · have hkl : k = l2 := by omega
        subst hkl
        have hBl' := hBl.out
        have hln : (B.drop d).length = n := by simp; omega
        have ht2' : t2 + (B.drop d).length ≤ 1152921504606846976 := by have := ht2.out; omega
        have hb4' : b4 = lastN N.toNat B := by rw [hb4.out]; rfl
        have ht4' : t4 = k1 := by rw [ht4.out]; omega
        -- the bytes told by the law itself
        obtain ⟨j, hj⟩ : ∃ j : Int, j = if N < (k1 : Int) then (k1 : Int) - N else 0 := ⟨_, rfl⟩
        have hj0 : 0 ≤ j ∧ j ≤ k1 := by rw [hj]; split <;> omega
        obtain ⟨A5, c5, hsl, hS5, -⟩ := slice_from (P := Try.prog) 22 5 Try.underlying22 Try.info_u8 hS1'.out j hj0.1 (k1 - j.toNat) (by omega)
        have hS5' : Sl w 1 (.slice A5 (k1 - j.toNat) c5) (k1 - j.toNat) (cellsOf .u8 b4) := by
          rw [Nat.mul_one, cellsOf_drop] at hS5
          have : B.drop j.toNat = b4 := by
            rw [hb4']; unfold lastN; congr 1; rw [hj]; split <;> omega
          rw [← this]; exact hS5
        have hcs5 : ∀ w', Chg [] w w' → (convert 22 9 (.slice A5 (k1 - j.toNat) c5)).run Try.prog w' = .ok (.string (strOfNums b4)) w' := fun w' hc =>
          sl_string (hS5'.chg hc (by simp)) 22 5 9 Try.underlying22 Try.underlying5 Try.underlying9
        rw [hj] at hsl
        obtain ⟨n5, hn5⟩ : ∃ n5, n5 = k1 - (if N < (k1 : Int) then (k1 : Int) - N else 0).toNat := ⟨_, rfl⟩
        rw [← hn5] at hsl
        rw [hj, ← hn5] at hcs5
        have e1 : IntKind.i64.wrap ((k1 : Int) - N) = (k1 : Int) - N := IntWalk.i64_in _ (by omega)
        replace hcs5 := Lib.hid hcs5
        replace hln := Lib.hid hln
        replace hb4' := Lib.hid hb4'
        replace ht4' := Lib.hid ht4'
        replace e1 := Lib.hid e1
        replace hSr := Lib.hid hSr
        replace hvr := Lib.hid hvr
        replace ht2' := Lib.hid ht2'
        clear hS5 hS5' hj hj0 hBl' hn5 hs1
        go_wp2_with (go_at_call 11; refine (put_h w wr g2 r2 _ _ _ _ hV _ _ _ hSr.out hvr.out hC hY ht2'.out).mono ?_; rintro e w8 ⟨rfl, r5, h5, b5, t5, hV8, hb5, ht5, hr5, hC8, hY8, hC8'⟩)
        have hW8 := hW.keep hC8 hA
        have hbb : b5 = b4 := by rw [hb5.out, hb2.out, hb4'.out, lastN_append, List.take_append_drop]
        have htt : t5 = k1 := by rw [ht5.out, ht2.out, hln.out]; omega
        have htt4 := ht4'.out
        subst hbb htt htt4
        have hcb1 : ∀ w', Chg [] w8 w' → Calls Try.prog 12 #[.pointer (some ⟨g1, 0, none⟩)] w' _ := fun w' hc => bytes_str w' g1 (hW8.chg hc (by simp) (by simp)) _ rfl _ rfl
        have hcb2 : ∀ w', Chg [] w8 w' → Calls Try.prog 12 #[.pointer (some ⟨g2, 0, none⟩)] w' _ := fun w' hc => bytes_str w' g2 (hV8.chg hc (by simp) (by simp)) _ rfl _ rfl
        have hct1 : ∀ w', Chg [] w8 w' → Calls Try.prog 13 #[.pointer (some ⟨g1, 0, none⟩)] w' _ := fun w' hc => total_any g1 w' (hW8.chg hc (by simp) (by simp))
        have hct2 : ∀ w', Chg [] w8 w' → Calls Try.prog 13 #[.pointer (some ⟨g2, 0, none⟩)] w' _ := fun w' hc => total_any g2 w' (hV8.chg hc (by simp) (by simp))
        replace hC8' := Lib.hid hC8'
        replace hcb1 := Lib.hid hcb1
        replace hcb2 := Lib.hid hcb2
        replace hct1 := Lib.hid hct1
        replace hct2 := Lib.hid hct2
        clear hW8 hV8 hY8 hY2 hC8 hC hY hA hW hV hSr hvr ht2' ht2 ht5 hb5 hb2 hb4 hb4' ht4 hr5 hln
        have e2 := e1.out
        clear hcs h2 hv1 hS1' hBl hll1 hll2 hk1' d1 d2 hm hq hlt hk hdn hg1 hg2 hY4 hN2 e1 hA4 hW4 hV4 hC4'
        refine wp_region_any (by kernel_rfl) ?_
        (try (change wpAny _ _ _ _ _ _ _ (World.drew _)))
        refine wpAny_take (i := 0) (v := ?_) rfl (by kernel_rfl) (by kernel_rfl) (by kernel_rfl) (fun _ _ _ h => h) (Or.inl ⟨by kernel_rfl, ?_⟩) ?_
        rotate_left
        · (intro w; go_simp; try with_reducible rfl)
        change wpAny _ _ _ _ _ _ (Act.put _ (some 83) _) _
        (try simp only [Act.put, List.setIfInBounds_toArray, List.set_cons_zero, List.set_cons_succ])
        refine wpAny_take (i := 3) (v := ?_) rfl (by kernel_rfl) (by kernel_rfl) (by kernel_rfl) (fun _ _ _ h => h) (Or.inl ⟨by kernel_rfl, ?_⟩) ?_
        rotate_left
        · (intro w; go_simp; try with_reducible rfl)
        change wpAny _ _ _ _ _ _ (Act.put _ (some 86) _) _
        (try simp only [Act.put, List.setIfInBounds_toArray, List.set_cons_zero, List.set_cons_succ])
        refine wpAny_ready (rs := [1]) (by kernel_rfl) (by simp) ?_
        refine AllReady.cons rfl (fun K hK => ?_) ?_
        · go_simp
          go_wp2_with (first
              | (go_at_call_of 12 (Value.pointer (some ⟨g1, 0, none⟩)); refine (hcb1.out _ (by exact (Chg.refl _ _).drew)).mono ?_; rintro e w9 ⟨A9, c9, rfl, hs9, ho9, hC9⟩; have hD9 := Lib.hid ((Chg.refl [] w8).drew.trans hC9); have hv9 := Lib.hid (fun (w' : World) (hc : Chg [] w9 w') => sl_string (P := Try.prog) (own_sl (own_chg ho9 hc (by simp))) 22 5 9 Try.underlying22 Try.underlying5 Try.underlying9); have hv5 := Lib.hid (fun (w' : World) (hc : Chg [] w9 w') => hcs5.out w' ((hC8'.out.trans hD9.out).trans hc)); clear hC9 ho9 hs9)
              | (go_at_call_of 12 (Value.pointer (some ⟨g2, 0, none⟩)); refine (hcb2.out _ (hD9.out.trans (by exact hHeld))).mono ?_; rintro e w10 ⟨A10, c10, rfl, hs10, -, hC10⟩)
              | (go_at_call_of 12 (Value.pointer (some ⟨g1, 0, none⟩)); refine (hcb1.out _ (hD9.out.trans (by exact hHeld))).mono ?_; rintro e w11 ⟨A11, c11, rfl, hs11, -, hC11⟩)
              | (go_at_call_of 13 (Value.pointer (some ⟨g1, 0, none⟩)); refine (hct1.out _ (hD9.out.trans (by exact hHeld))).mono ?_; rintro e w' ⟨rfl, rfl⟩)
              | (go_at_call_of 13 (Value.pointer (some ⟨g2, 0, none⟩)); refine (hct2.out _ (hD9.out.trans (by exact hHeld))).mono ?_; rintro e w' ⟨rfl, rfl⟩))
          (try (refine hK _ _ ?_; clear hK K))
          (try simp only [Act.put, List.setIfInBounds_toArray, List.set_cons_zero, List.set_cons_succ])
          have hHeld : Chg [] w9 w9 := Chg.refl _ _
          refine wpAny_of_held (S := fun w' => Chg [] w9 w') _ _ _ _ ?_
          refine wpAnyH_take (i := 2) (v := ?_) rfl (by kernel_rfl) (by kernel_rfl) (by kernel_rfl) (fun _ _ _ h => h) (Or.inl ⟨by kernel_rfl, ?_⟩) (by exact hHeld) ?_
          rotate_left
          · (intro w hSw; have hq := hv9.out w hSw; clear hSw; go_simp; try with_reducible rfl)
          change wpAnyH _ _ _ _ _ _ _ (Act.put _ (some 85) _) _
          (try simp only [Act.put, List.setIfInBounds_toArray, List.set_cons_zero, List.set_cons_succ])
          refine wpAnyH_all (rs := [4]) (by kernel_rfl) (by simp) ?_
          refine AllReadyH.cons rfl (fun K hK => ?_) ?_
          · go_simp
            go_wp2_with (first
                | (go_at_call_of 12 (Value.pointer (some ⟨g1, 0, none⟩)); refine (hcb1.out _ (by exact (Chg.refl _ _).drew)).mono ?_; rintro e w9 ⟨A9, c9, rfl, hs9, ho9, hC9⟩; have hD9 := Lib.hid ((Chg.refl [] w8).drew.trans hC9); have hv9 := Lib.hid (fun (w' : World) (hc : Chg [] w9 w') => sl_string (P := Try.prog) (own_sl (own_chg ho9 hc (by simp))) 22 5 9 Try.underlying22 Try.underlying5 Try.underlying9); have hv5 := Lib.hid (fun (w' : World) (hc : Chg [] w9 w') => hcs5.out w' ((hC8'.out.trans hD9.out).trans hc)); clear hC9 ho9 hs9)
                | (go_at_call_of 12 (Value.pointer (some ⟨g2, 0, none⟩)); refine (hcb2.out _ (hD9.out.trans (by exact hHeld))).mono ?_; rintro e w10 ⟨A10, c10, rfl, hs10, -, hC10⟩)
                | (go_at_call_of 12 (Value.pointer (some ⟨g1, 0, none⟩)); refine (hcb1.out _ (hD9.out.trans (by exact hHeld))).mono ?_; rintro e w11 ⟨A11, c11, rfl, hs11, -, hC11⟩)
                | (go_at_call_of 13 (Value.pointer (some ⟨g1, 0, none⟩)); refine (hct1.out _ (hD9.out.trans (by exact hHeld))).mono ?_; rintro e w' ⟨rfl, rfl⟩)
                | (go_at_call_of 13 (Value.pointer (some ⟨g2, 0, none⟩)); refine (hct2.out _ (hD9.out.trans (by exact hHeld))).mono ?_; rintro e w' ⟨rfl, rfl⟩))
            refine hK.out _ _ (by first | exact hHeld | exact Chg.trans hHeld (by assumption)) (fun hHeld => ?_)
            clear hK K
            (try simp only [Act.put, List.setIfInBounds_toArray, List.set_cons_zero, List.set_cons_succ])
            refine wpAnyH_all (rs := [5]) (by kernel_rfl) (by simp) ?_
            refine AllReadyH.cons rfl (fun K hK => ?_) ?_
            · go_simp
              refine hK.out _ _ (by first | exact hHeld | exact Chg.trans hHeld (by assumption)) (fun hHeld => ?_)
              clear hK K
              (try simp only [Act.put, List.setIfInBounds_toArray, List.set_cons_zero, List.set_cons_succ])
              refine wpAnyH_take (i := 6) (v := ?_) rfl (by kernel_rfl) (by kernel_rfl) (by kernel_rfl) (fun _ _ _ h => h) (Or.inl ⟨by kernel_rfl, ?_⟩) (by exact hHeld) ?_
              rotate_left
              · (intro w hSw; clear hSw; go_simp; try with_reducible rfl)
              change wpAnyH _ _ _ _ _ _ _ (Act.put _ (some 89) _) _
              (try simp only [Act.put, List.setIfInBounds_toArray, List.set_cons_zero, List.set_cons_succ])
              refine wpAnyH_take (i := 7) (v := ?_) rfl (by kernel_rfl) (by kernel_rfl) (by kernel_rfl) (fun _ _ _ h => h) (Or.inl ⟨by kernel_rfl, ?_⟩) (by exact hHeld) ?_
              rotate_left
              · (intro w hSw; clear hSw; go_simp; try with_reducible rfl)
              change wpAnyH _ _ _ _ _ _ _ (Act.put _ (some 90) _) _
              (try simp only [Act.put, List.setIfInBounds_toArray, List.set_cons_zero, List.set_cons_succ])
              refine wpAnyH_take (i := 8) (v := ?_) rfl (by kernel_rfl) (by kernel_rfl) (by kernel_rfl) (fun _ _ _ h => h) (Or.inl ⟨by kernel_rfl, ?_⟩) (by exact hHeld) ?_
              rotate_left
              · (intro w hSw; clear hSw; go_simp; try with_reducible rfl)
              change wpAnyH _ _ _ _ _ _ _ (Act.put _ (some 91) _) _
              (try simp only [Act.put, List.setIfInBounds_toArray, List.set_cons_zero, List.set_cons_succ])
              refine wpAnyH_take (i := 11) (v := ?_) rfl (by kernel_rfl) (by kernel_rfl) (by kernel_rfl) (fun _ _ _ h => h) (Or.inl ⟨by kernel_rfl, ?_⟩) (by exact hHeld) ?_
              rotate_left
              · (intro w hSw; clear hSw; go_simp; try with_reducible rfl)
              change wpAnyH _ _ _ _ _ _ _ (Act.put _ (some 94) _) _
              (try simp only [Act.put, List.setIfInBounds_toArray, List.set_cons_zero, List.set_cons_succ])
              refine wpAnyH_take (i := 12) (v := ?_) rfl (by kernel_rfl) (by kernel_rfl) (by kernel_rfl) (fun _ _ _ h => h) (Or.inl ⟨by kernel_rfl, ?_⟩) (by exact hHeld) ?_
              rotate_left
              · (intro w hSw; clear hSw; go_simp; try with_reducible rfl)
              change wpAnyH _ _ _ _ _ _ _ (Act.put _ (some 95) _) _
              (try simp only [Act.put, List.setIfInBounds_toArray, List.set_cons_zero, List.set_cons_succ])
              refine wpAnyH_take (i := 13) (v := ?_) rfl (by kernel_rfl) (by kernel_rfl) (by kernel_rfl) (fun _ _ _ h => h) (Or.inl ⟨by kernel_rfl, ?_⟩) (by exact hHeld) ?_
              rotate_left
              · (intro w hSw; clear hSw; go_simp; try with_reducible rfl)
              change wpAnyH _ _ _ _ _ _ _ (Act.put _ (some 96) _) _
              (try simp only [Act.put, List.setIfInBounds_toArray, List.set_cons_zero, List.set_cons_succ])
              refine wpAnyH_take (i := 14) (v := ?_) rfl (by kernel_rfl) (by kernel_rfl) (by kernel_rfl) (fun _ _ _ h => h) (Or.inl ⟨by kernel_rfl, ?_⟩) (by exact hHeld) ?_
              rotate_left
              · (intro w hSw; clear hSw; go_simp; try with_reducible rfl)
              change wpAnyH _ _ _ _ _ _ _ (Act.put _ (some 97) _) _
              (try simp only [Act.put, List.setIfInBounds_toArray, List.set_cons_zero, List.set_cons_succ])
              refine wpAnyH_take (i := 15) (v := ?_) rfl (by kernel_rfl) (by kernel_rfl) (by kernel_rfl) (fun _ _ _ h => h) (Or.inl ⟨by kernel_rfl, ?_⟩) (by exact hHeld) ?_
              rotate_left
              · (intro w hSw; clear hSw; go_simp; try with_reducible rfl)
              change wpAnyH _ _ _ _ _ _ _ (Act.put _ (some 98) _) _
              (try simp only [Act.put, List.setIfInBounds_toArray, List.set_cons_zero, List.set_cons_succ])
              refine wpAnyH_take (i := 16) (v := ?_) rfl (by kernel_rfl) (by kernel_rfl) (by kernel_rfl) (fun _ _ _ h => h) (Or.inl ⟨by kernel_rfl, ?_⟩) (by exact hHeld) ?_
              rotate_left
              · (intro w hSw; clear hSw; go_simp; try with_reducible rfl)
              change wpAnyH _ _ _ _ _ _ _ (Act.put _ (some 99) _) _
              (try simp only [Act.put, List.setIfInBounds_toArray, List.set_cons_zero, List.set_cons_succ])
              refine wpAnyH_take (i := 17) (v := ?_) rfl (by kernel_rfl) (by kernel_rfl) (by kernel_rfl) (fun _ _ _ h => h) (Or.inl ⟨by kernel_rfl, ?_⟩) (by exact hHeld) ?_
              rotate_left
              · (intro w hSw; clear hSw; go_simp; try with_reducible rfl)
              change wpAnyH _ _ _ _ _ _ _ (Act.put _ (some 100) _) _
              (try simp only [Act.put, List.setIfInBounds_toArray, List.set_cons_zero, List.set_cons_succ])
              generalize (if N < (k1 : Int) then (k1 : Int) - N else 0) = z5
              refine wpAnyH_take (i := 18) (v := ?_) rfl (by kernel_rfl) (by kernel_rfl) (by kernel_rfl) (fun _ _ _ h => h) (Or.inl ⟨by kernel_rfl, ?_⟩) (by exact hHeld) ?_
              rotate_left
              · (intro w hSw; have hq := hv5.out w hSw; clear hSw; go_simp; try with_reducible rfl)
              change wpAnyH _ _ _ _ _ _ _ (Act.put _ (some 101) _) _
              (try simp only [Act.put, List.setIfInBounds_toArray, List.set_cons_zero, List.set_cons_succ])
              refine wpAnyH_all (rs := [9]) (by kernel_rfl) (by simp) ?_
              refine AllReadyH.cons rfl (fun K hK => ?_) ?_
              · go_simp
                go_wp2_with (first
                    | (go_at_call_of 12 (Value.pointer (some ⟨g1, 0, none⟩)); refine (hcb1.out _ (by exact (Chg.refl _ _).drew)).mono ?_; rintro e w9 ⟨A9, c9, rfl, hs9, ho9, hC9⟩; have hD9 := Lib.hid ((Chg.refl [] w8).drew.trans hC9); have hv9 := Lib.hid (fun (w' : World) (hc : Chg [] w9 w') => sl_string (P := Try.prog) (own_sl (own_chg ho9 hc (by simp))) 22 5 9 Try.underlying22 Try.underlying5 Try.underlying9); have hv5 := Lib.hid (fun (w' : World) (hc : Chg [] w9 w') => hcs5.out w' ((hC8'.out.trans hD9.out).trans hc)); clear hC9 ho9 hs9)
                    | (go_at_call_of 12 (Value.pointer (some ⟨g2, 0, none⟩)); refine (hcb2.out _ (hD9.out.trans (by exact hHeld))).mono ?_; rintro e w10 ⟨A10, c10, rfl, hs10, -, hC10⟩)
                    | (go_at_call_of 12 (Value.pointer (some ⟨g1, 0, none⟩)); refine (hcb1.out _ (hD9.out.trans (by exact hHeld))).mono ?_; rintro e w11 ⟨A11, c11, rfl, hs11, -, hC11⟩)
                    | (go_at_call_of 13 (Value.pointer (some ⟨g1, 0, none⟩)); refine (hct1.out _ (hD9.out.trans (by exact hHeld))).mono ?_; rintro e w' ⟨rfl, rfl⟩)
                    | (go_at_call_of 13 (Value.pointer (some ⟨g2, 0, none⟩)); refine (hct2.out _ (hD9.out.trans (by exact hHeld))).mono ?_; rintro e w' ⟨rfl, rfl⟩))
                refine hK.out _ _ (by first | exact hHeld | exact Chg.trans hHeld (by assumption)) (fun hHeld => ?_)
                clear hK K
                (try simp only [Act.put, List.setIfInBounds_toArray, List.set_cons_zero, List.set_cons_succ])
                refine wpAnyH_all (rs := [10]) (by kernel_rfl) (by simp) ?_
                refine AllReadyH.cons rfl (fun K hK => ?_) ?_
                · go_simp
                  refine hK.out _ _ (by first | exact hHeld | exact Chg.trans hHeld (by assumption)) (fun hHeld => ?_)
                  clear hK K
                  (try simp only [Act.put, List.setIfInBounds_toArray, List.set_cons_zero, List.set_cons_succ])
                  refine wpAnyH_take (i := 19) (v := ?_) rfl (by kernel_rfl) (by kernel_rfl) (by kernel_rfl) (fun _ _ _ h => h) (Or.inl ⟨by kernel_rfl, ?_⟩) (by exact hHeld) ?_
                  rotate_left
                  · (intro w hSw; clear hSw; go_simp; try with_reducible rfl)
                  change wpAnyH _ _ _ _ _ _ _ (Act.put _ (some 102) _) _
                  (try simp only [Act.put, List.setIfInBounds_toArray, List.set_cons_zero, List.set_cons_succ])
                  refine wpAnyH_take (i := 20) (v := ?_) rfl (by kernel_rfl) (by kernel_rfl) (by kernel_rfl) (fun _ _ _ h => h) (Or.inl ⟨by kernel_rfl, ?_⟩) (by exact hHeld) ?_
                  rotate_left
                  · (intro w hSw; clear hSw; go_simp; try with_reducible rfl)
                  change wpAnyH _ _ _ _ _ _ _ (Act.put _ (some 103) _) _
                  (try simp only [Act.put, List.setIfInBounds_toArray, List.set_cons_zero, List.set_cons_succ])
                  refine wpAnyH_take (i := 21) (v := ?_) rfl (by kernel_rfl) (by kernel_rfl) (by kernel_rfl) (fun _ _ _ h => h) (Or.inl ⟨by kernel_rfl, ?_⟩) (by exact hHeld) ?_
                  rotate_left
                  · (intro w hSw; clear hSw; go_simp; try with_reducible rfl)
                  change wpAnyH _ _ _ _ _ _ _ (Act.put _ (some 104) _) _
                  (try simp only [Act.put, List.setIfInBounds_toArray, List.set_cons_zero, List.set_cons_succ])
                  refine wpAnyH_take (i := 22) (v := ?_) rfl (by kernel_rfl) (by kernel_rfl) (by kernel_rfl) (fun _ _ _ h => h) (Or.inl ⟨by kernel_rfl, ?_⟩) (by exact hHeld) ?_
                  rotate_left
                  · (intro w hSw; clear hSw; go_simp; try with_reducible rfl)
                  change wpAnyH _ _ _ _ _ _ _ (Act.put _ (some 105) _) _
                  (try simp only [Act.put, List.setIfInBounds_toArray, List.set_cons_zero, List.set_cons_succ])
                  refine wpAnyH_take (i := 24) (v := ?_) rfl (by kernel_rfl) (by kernel_rfl) (by kernel_rfl) (fun _ _ _ h => h) (Or.inl ⟨by kernel_rfl, ?_⟩) (by exact hHeld) ?_
                  rotate_left
                  · (intro w hSw; clear hSw; go_simp; try with_reducible rfl)
                  change wpAnyH _ _ _ _ _ _ _ (Act.put _ (some 107) _) _
                  (try simp only [Act.put, List.setIfInBounds_toArray, List.set_cons_zero, List.set_cons_succ])
                  refine wpAnyH_take (i := 25) (v := ?_) rfl (by kernel_rfl) (by kernel_rfl) (by kernel_rfl) (fun _ _ _ h => h) (Or.inl ⟨by kernel_rfl, ?_⟩) (by exact hHeld) ?_
                  rotate_left
                  · (intro w hSw; clear hSw; go_simp; try with_reducible rfl)
                  change wpAnyH _ _ _ _ _ _ _ (Act.put _ (some 108) _) _
                  (try simp only [Act.put, List.setIfInBounds_toArray, List.set_cons_zero, List.set_cons_succ])
                  refine wpAnyH_all (rs := [23]) (by kernel_rfl) (by simp) ?_
                  refine AllReadyH.cons rfl (fun K hK => ?_) ?_
                  · go_simp
                    go_wp2_with (first
                        | (go_at_call_of 12 (Value.pointer (some ⟨g1, 0, none⟩)); refine (hcb1.out _ (by exact (Chg.refl _ _).drew)).mono ?_; rintro e w9 ⟨A9, c9, rfl, hs9, ho9, hC9⟩; have hD9 := Lib.hid ((Chg.refl [] w8).drew.trans hC9); have hv9 := Lib.hid (fun (w' : World) (hc : Chg [] w9 w') => sl_string (P := Try.prog) (own_sl (own_chg ho9 hc (by simp))) 22 5 9 Try.underlying22 Try.underlying5 Try.underlying9); have hv5 := Lib.hid (fun (w' : World) (hc : Chg [] w9 w') => hcs5.out w' ((hC8'.out.trans hD9.out).trans hc)); clear hC9 ho9 hs9)
                        | (go_at_call_of 12 (Value.pointer (some ⟨g2, 0, none⟩)); refine (hcb2.out _ (hD9.out.trans (by exact hHeld))).mono ?_; rintro e w10 ⟨A10, c10, rfl, hs10, -, hC10⟩)
                        | (go_at_call_of 12 (Value.pointer (some ⟨g1, 0, none⟩)); refine (hcb1.out _ (hD9.out.trans (by exact hHeld))).mono ?_; rintro e w11 ⟨A11, c11, rfl, hs11, -, hC11⟩)
                        | (go_at_call_of 13 (Value.pointer (some ⟨g1, 0, none⟩)); refine (hct1.out _ (hD9.out.trans (by exact hHeld))).mono ?_; rintro e w' ⟨rfl, rfl⟩)
                        | (go_at_call_of 13 (Value.pointer (some ⟨g2, 0, none⟩)); refine (hct2.out _ (hD9.out.trans (by exact hHeld))).mono ?_; rintro e w' ⟨rfl, rfl⟩))
                    refine hK.out _ _ (by first | exact hHeld | exact Chg.trans hHeld (by assumption)) (fun hHeld => ?_)
                    clear hK K
                    (try simp only [Act.put, List.setIfInBounds_toArray, List.set_cons_zero, List.set_cons_succ])
                    refine wpAnyH_take (i := 26) (v := ?_) rfl (by kernel_rfl) (by kernel_rfl) (by kernel_rfl) (fun _ _ _ h => h) (Or.inl ⟨by kernel_rfl, ?_⟩) (by exact hHeld) ?_
                    rotate_left
                    · (intro w hSw; clear hSw; go_simp; try with_reducible rfl)
                    change wpAnyH _ _ _ _ _ _ _ (Act.put _ (some 109) _) _
                    (try simp only [Act.put, List.setIfInBounds_toArray, List.set_cons_zero, List.set_cons_succ])
                    refine wpAnyH_take (i := 27) (v := ?_) rfl (by kernel_rfl) (by kernel_rfl) (by kernel_rfl) (fun _ _ _ h => h) (Or.inl ⟨by kernel_rfl, ?_⟩) (by exact hHeld) ?_
                    rotate_left
                    · (intro w hSw; clear hSw; go_simp; try with_reducible rfl)
                    change wpAnyH _ _ _ _ _ _ _ (Act.put _ (some 110) _) _
                    (try simp only [Act.put, List.setIfInBounds_toArray, List.set_cons_zero, List.set_cons_succ])
                    refine wpAnyH_take (i := 28) (v := ?_) rfl (by kernel_rfl) (by kernel_rfl) (by kernel_rfl) (fun _ _ _ h => h) (Or.inl ⟨by kernel_rfl, ?_⟩) (by exact hHeld) ?_
                    rotate_left
                    · (intro w hSw; clear hSw; go_simp; try with_reducible rfl)
                    change wpAnyH _ _ _ _ _ _ _ (Act.put _ (some 111) _) _
                    (try simp only [Act.put, List.setIfInBounds_toArray, List.set_cons_zero, List.set_cons_succ])
                    refine wpAnyH_take (i := 29) (v := ?_) rfl (by kernel_rfl) (by kernel_rfl) (by kernel_rfl) (fun _ _ _ h => h) (Or.inl ⟨by kernel_rfl, ?_⟩) (by exact hHeld) ?_
                    rotate_left
                    · (intro w hSw; clear hSw; go_simp; try with_reducible rfl)
                    change wpAnyH _ _ _ _ _ _ _ (Act.put _ (some 112) _) _
                    (try simp only [Act.put, List.setIfInBounds_toArray, List.set_cons_zero, List.set_cons_succ])
                    refine wpAnyH_take (i := 31) (v := ?_) rfl (by kernel_rfl) (by kernel_rfl) (by kernel_rfl) (fun _ _ _ h => h) (Or.inl ⟨by kernel_rfl, ?_⟩) (by exact hHeld) ?_
                    rotate_left
                    · (intro w hSw; clear hSw; go_simp; try with_reducible rfl)
                    change wpAnyH _ _ _ _ _ _ _ (Act.put _ (some 114) _) _
                    (try simp only [Act.put, List.setIfInBounds_toArray, List.set_cons_zero, List.set_cons_succ])
                    refine wpAnyH_take (i := 32) (v := ?_) rfl (by kernel_rfl) (by kernel_rfl) (by kernel_rfl) (fun _ _ _ h => h) (Or.inl ⟨by kernel_rfl, ?_⟩) (by exact hHeld) ?_
                    rotate_left
                    · (intro w hSw; clear hSw; go_simp; try with_reducible rfl)
                    change wpAnyH _ _ _ _ _ _ _ (Act.put _ (some 115) _) _
                    (try simp only [Act.put, List.setIfInBounds_toArray, List.set_cons_zero, List.set_cons_succ])
                    refine wpAnyH_all (rs := [30]) (by kernel_rfl) (by simp) ?_
                    refine AllReadyH.cons rfl (fun K hK => ?_) ?_
                    · go_simp
                      go_wp2_with (first
                          | (go_at_call_of 12 (Value.pointer (some ⟨g1, 0, none⟩)); refine (hcb1.out _ (by exact (Chg.refl _ _).drew)).mono ?_; rintro e w9 ⟨A9, c9, rfl, hs9, ho9, hC9⟩; have hD9 := Lib.hid ((Chg.refl [] w8).drew.trans hC9); have hv9 := Lib.hid (fun (w' : World) (hc : Chg [] w9 w') => sl_string (P := Try.prog) (own_sl (own_chg ho9 hc (by simp))) 22 5 9 Try.underlying22 Try.underlying5 Try.underlying9); have hv5 := Lib.hid (fun (w' : World) (hc : Chg [] w9 w') => hcs5.out w' ((hC8'.out.trans hD9.out).trans hc)); clear hC9 ho9 hs9)
                          | (go_at_call_of 12 (Value.pointer (some ⟨g2, 0, none⟩)); refine (hcb2.out _ (hD9.out.trans (by exact hHeld))).mono ?_; rintro e w10 ⟨A10, c10, rfl, hs10, -, hC10⟩)
                          | (go_at_call_of 12 (Value.pointer (some ⟨g1, 0, none⟩)); refine (hcb1.out _ (hD9.out.trans (by exact hHeld))).mono ?_; rintro e w11 ⟨A11, c11, rfl, hs11, -, hC11⟩)
                          | (go_at_call_of 13 (Value.pointer (some ⟨g1, 0, none⟩)); refine (hct1.out _ (hD9.out.trans (by exact hHeld))).mono ?_; rintro e w' ⟨rfl, rfl⟩)
                          | (go_at_call_of 13 (Value.pointer (some ⟨g2, 0, none⟩)); refine (hct2.out _ (hD9.out.trans (by exact hHeld))).mono ?_; rintro e w' ⟨rfl, rfl⟩))
                      refine hK.out _ _ (by first | exact hHeld | exact Chg.trans hHeld (by assumption)) (fun hHeld => ?_)
                      clear hK K
                      (try simp only [Act.put, List.setIfInBounds_toArray, List.set_cons_zero, List.set_cons_succ])
                      refine wpAnyH_take (i := 33) (v := ?_) rfl (by kernel_rfl) (by kernel_rfl) (by kernel_rfl) (fun _ _ _ h => h) (Or.inl ⟨by kernel_rfl, ?_⟩) (by exact hHeld) ?_
                      rotate_left
                      · (intro w hSw; clear hSw; go_simp; try with_reducible rfl)
                      change wpAnyH _ _ _ _ _ _ _ (Act.put _ (some 116) _) _
                      (try simp only [Act.put, List.setIfInBounds_toArray, List.set_cons_zero, List.set_cons_succ])
                      refine wpAnyH_take (i := 34) (v := ?_) rfl (by kernel_rfl) (by kernel_rfl) (by kernel_rfl) (fun _ _ _ h => h) (Or.inl ⟨by kernel_rfl, ?_⟩) (by exact hHeld) ?_
                      rotate_left
                      · (intro w hSw; clear hSw; go_simp; try with_reducible rfl)
                      change wpAnyH _ _ _ _ _ _ _ (Act.put _ (some 117) _) _
                      (try simp only [Act.put, List.setIfInBounds_toArray, List.set_cons_zero, List.set_cons_succ])
                      refine wpAnyH_take (i := 35) (v := ?_) rfl (by kernel_rfl) (by kernel_rfl) (by kernel_rfl) (fun _ _ _ h => h) (Or.inl ⟨by kernel_rfl, ?_⟩) (by exact hHeld) ?_
                      rotate_left
                      · (intro w hSw; clear hSw; go_simp; try with_reducible rfl)
                      change wpAnyH _ _ _ _ _ _ _ (Act.put _ (some 6) _) _
                      (try simp only [Act.put, List.setIfInBounds_toArray, List.set_cons_zero, List.set_cons_succ])
                      refine wpAnyH_done (by kernel_rfl) ?_ _
                      (try simp only [Act.put, List.setIfInBounds_toArray, List.set_cons_zero, List.set_cons_succ])
                      go_wp2
                      go_ret
                      exact ⟨rfl, ((hC8'.out.trans hD9.out).trans hHeld).below⟩
                    exact AllReadyH.nil
                  exact AllReadyH.nil
                exact AllReadyH.nil
              exact AllReadyH.nil
            exact AllReadyH.nil
          exact AllReadyH.nil
        exact AllReady.nil
end Go.Proofs.Ytjfbbobaghdocaa
