/- The law MatchBehind, walked. No condition. -/
import Derived.Test.YtojgdmpnbgikeaaBehinds
import Derived.Deep.CutBlock
import Derived.Deep.DeepCutAuto
set_option linter.unusedVariables false
set_option linter.unusedSimpArgs false
namespace Go.Proofs.Ytojgdmpnbgikeaa
open Go.RowKit PMatchFeeds YtojgdmpnbgikeaaW.PrintWords
namespace Mt
open Kmp Glob
theorem sl_low {w : World} {size : Nat} {A : Option Addr} {n c : Nat} {xs : List Value} (h : Sl w size (.slice A n c) n xs) (hx : 0 < xs.length) : ∀ k, (Value.slice A n c).ownBlock = some k → k < w.heap.size := by
  intro k hk
  obtain ⟨b, o, rfl, hr⟩ := sl_row h hx
  have : k = b := by simpa [Value.ownBlock] using hk.symm
  subst this
  have := hr 0 _ (List.getElem?_eq_getElem hx)
  unfold World.cell? at this
  split at this
  · rename_i cs t f hg; exact lt_heap hg
  · cases this
set_option maxRecDepth 100000 in
set_option maxHeartbeats 16000000 in
theorem matchBehind_walk (most : Int) (m1 : -9223372036854775808 ≤ most) (m2 : most ≤ 9223372036854775807) (A Aa Ab : Option Addr) (a b : List UInt8) (l : List Br) (n c na ca nb cb : Nat) (hn : l.length = n) (hna : a.length = na) (hnb : b.length = nb) (hab : na + nb ≤ 1048576) (hl : ∀ x ∈ l, x.pat.length ≤ 9223372036854775807) (w : World)
    (hA : Sl w 1 (.slice Aa na ca) na (cellsOf .u8 (ns a))) (hB : Sl w 1 (.slice Ab nb cb) nb (cellsOf .u8 (ns b))) (hS : Sl w 2 (.slice A n c) n (brCells l)) :
    Calls Try.prog 8 #[.agg #[.slice Aa na ca, .slice Ab nb cb], .int .i64 most, .slice A n c] w fun e w' => e = .returned (.bool true) ∧ Below w.heap.size w w' := by
  have hn9 : n ≤ 9223372036854775807 := by
    have := sl_max hS
    unfold maxLen at this
    omega
  replace hA := Lib.hid hA
  replace hB := Lib.hid hB
  replace hS := Lib.hid hS
  go_enter Try.func8, Try.ntmps8
  go_upto_region 1 with fail
  go_cut [7, 8, 9] (fun v7 v8 v9 wx => ∃ M : Nat, 1 ≤ M ∧ M ≤ 12 ∧ v7 = .slice Aa na ca ∧ v8 = .slice Ab nb cb ∧ v9 = .int .i64 M ∧ Chg [] w wx)
  case first =>
    by_cases h0 : 0 ≤ most
    all_goals
      go_wp2_with fail
      go_quiet (fail)
    all_goals
      go_wp2_with fail
    all_goals
      go_meet
      first
      | exact ⟨1, by decide, by decide, rfl, rfl, rfl, ((Chg.refl [] w).alloc _).drewN _⟩
      | exact ⟨(1 + most % 12).toNat, by omega, by omega, rfl, rfl, by rw [Int.toNat_of_nonneg (by omega)], ((Chg.refl [] w).alloc _).drewN _⟩
  case rest =>
  obtain ⟨M, hM1, hM2, rfl, rfl, rfl, hC⟩ := hcut
  have hB' := Lib.hid (fun W (hW : Chg [] w W) => hB.out.chg hW (by simp))
  have hA' := Lib.hid (fun W (hW : Chg [] w W) => hA.out.chg hW (by simp))
  have hgr := Lib.hid (fun W (hW : Chg [] w W) T Ag cg (ng : Nat) (hT : T.length = ng) (hG : Sl W 1 (.slice Ag ng cg) ng (cellsOf .u8 (ns T))) => great_any W T l A Ag n c ng cg hn (hS.out.chg hW (by simp)) hT hG)
  have hck := Lib.hid (fun W (hW : Chg [] w W) => check_ref W M (by omega) (by omega) l A n c hn hn9 (hS.out.chg hW (by simp)) hl)
  have hnw := Lib.hid (fun W (hW : Chg [] w W) => mnew_any W M l A n c hn (hS.out.chg hW (by simp)) hl)
  have hbase := hC.size
  replace hC := Lib.hid hC
  replace hn := Lib.hid hn
  replace hna := Lib.hid hna
  replace hnb := Lib.hid hnb
  replace hl := Lib.hid hl
  clear hA hB hS hn9 m1 m2
  go_wp2_with fail
  refine (alive_any _).mono ?_
  rintro e w1 ⟨rfl, hC1⟩
  replace hC1 := Lib.hid (hC.out.trans hC1)
  clear hC
  have hs1 := hC1.out.size
  have hO0 : (w1.alloc (.cells #[] 5)).ownsRow w.heap.size 5 1 (.slice (some ⟨w1.heap.size, 0, none⟩) 0 0) 0 [] := ⟨rfl, .inr ⟨w1.heap.size, 0, #[], rfl, hs1, blk_new _ _, Nat.le_refl _, by unfold maxLen; omega, rfl, rfl⟩⟩
  have hC2 := Lib.hid (hC1.out.alloc (.cells #[] 5))
  have hone : ∀ T : List UInt8, ∀ u ∈ cellsOf .u8 (ns T), u.oneCell' = true := fun T u hu => by
    simp [cellsOf, ns] at hu
    obtain ⟨x, _, rfl⟩ := hu; rfl
  replace hO0 := Lib.hid hO0
  replace hone := Lib.hid hone
  replace hs1 := Lib.hid hs1
  clear hC1
  go_wp2_with (refine gate_dst (N := 35) rfl ?_; refine gate_guard (by rfl) ?_; dsimp only; refine wpList_append_sl rfl (.tmp 33) (.tmp 34) 22 rfl w.heap.size 5 (.int .u8 0) 1 1 Try.underlying22 Try.info_u8k rfl (by decide) (.slice (some ⟨w1.heap.size, 0, none⟩) 0 0) 0 [] rfl hO0.out (.slice Aa na ca) na (cellsOf .u8 (ns a)) rfl (hA'.out _ hC2.out) (hone.out a) na (by omega) (by omega) (by decide) hC2.out.size ?_)
  intro A3 c3 w3 hO3 hCh3 hat3
  have hC3 := Lib.hid (hC2.out.then hCh3 (fun q hq => .inr (hO0.out.lt q (by simpa using hq)).1))
  replace hO3 := Lib.hid hO3
  clear hCh3 hat3 hO0 hC2
  go_wp2_with (refine gate_dst (N := 37) rfl ?_; refine gate_guard (by rfl) ?_; dsimp only; refine wpList_append_sl rfl (.tmp 35) (.tmp 36) 22 rfl w.heap.size 5 (.int .u8 0) 1 1 Try.underlying22 Try.info_u8k rfl (by decide) (.slice A3 na c3) na ([] ++ cellsOf .u8 (ns a)) rfl hO3.out (.slice Ab nb cb) nb (cellsOf .u8 (ns b)) rfl (hB'.out _ hC3.out) (hone.out b) (na + nb) rfl (by omega) (by decide) hC3.out.size ?_)
  intro A4 c4 w4 hO4 hCh4 hat4
  have hC4 := Lib.hid (hC3.out.then hCh4 (fun q hq => .inr (hO3.out.lt q (by simpa using hq)).1))
  have hG := own_sl hO4
  have hcat : cellsOf .u8 (ns a) ++ cellsOf .u8 (ns b) = cellsOf .u8 (ns (a ++ b)) := by simp [cellsOf, ns]
  rw [hcat] at hG
  have hgr' := Lib.hid (hgr.out w4 hC4.out (a ++ b) A4 c4 (na + nb) (by rw [List.length_append, hna.out, hnb.out]) hG)
  clear hCh4 hat4 hO3 hC3 hO4 hG hcat hgr hone
  go_wp2_with fail
  refine (hgr'.out).mono ?_
  rintro e w5 ⟨v, rfl, hv, hC5⟩
  replace hC5 := Lib.hid (hC4.out.trans hC5.out)
  clear hgr' hC4
  cases v with
  | true =>
    clear hv hck hnw hA' hB'
    go_wp2_with fail
    refine (alive_any _).mono ?_
    rintro e w6 ⟨rfl, hC6⟩
    replace hC6 := Lib.hid (hC5.out.trans hC6)
    go_wp2_with fail
    go_ret
    exact ⟨rfl, hC6.out.below⟩
  | false =>
    obtain ⟨h60, h70⟩ := hv.out rfl
    clear hv
    go_wp2_with fail
    refine (hck.out _ hC5.out).mono ?_
    rintro e w6 ⟨rfl, hC6⟩
    replace hC6 := Lib.hid (hC5.out.trans hC6)
    clear hC5 hck
    rcases Classical.em (newErr M l = 0) with h0 | h0
    rotate_left
    · obtain ⟨er, her⟩ : ∃ er, newErr M l = er := ⟨_, rfl⟩
      rw [her] at h0 ⊢
      have h0' : (er != 0) = true := by simpa using h0
      replace her := Lib.hid her
      clear hnw hA' hB'
      go_wp2_with fail
      refine (alive_any _).mono ?_
      rintro e w7 ⟨rfl, hC7⟩
      replace hC7 := Lib.hid (hC6.out.trans hC7)
      go_wp2_with fail
      go_ret
      exact ⟨rfl, hC7.out.below⟩
    · rw [h0]
      by_cases hbM : nb < M
      · replace h0 := Lib.hid h0
        clear hnw hA' hB'
        go_wp2_with fail
        refine (alive_any _).mono ?_
        rintro e w7 ⟨rfl, hC7⟩
        replace hC7 := Lib.hid (hC6.out.trans hC7)
        go_wp2_with fail
        go_ret
        exact ⟨rfl, hC7.out.below⟩
      · -- END
        have h0h := Lib.hid h0
        clear h0
        go_wp2_with fail
        refine (hnw.out _ hC6.out).mono ?_
        rintro e w7 ⟨hC7, hcase⟩
        rcases hcase with ⟨hne, _⟩ | ⟨_, hgood, g1, F1, rfl, hMS1, hF1⟩
        · exact absurd h0h.out hne
        rw [Int.toNat_natCast] at hMS1
        have hlo6 := hC6.out.size
        replace hC7 := Lib.hid (hC6.out.trans hC7)
        replace hMS1 := Lib.hid hMS1
        replace hF1 : Hid (∀ q, F1 q → w.heap.size ≤ q) := Lib.hid fun q hq => Nat.le_trans hlo6 (hF1 q hq)
        replace hgood := Lib.hid hgood
        clear hC6 hlo6
        go_wp2_with fail
        refine (hnw.out _ hC7.out).mono ?_
        rintro e w8 ⟨hC8, hcase⟩
        rcases hcase with ⟨hne, _⟩ | ⟨_, _, g2, F2, rfl, hMS2, hF2⟩
        · exact absurd h0h.out hne
        rw [Int.toNat_natCast] at hMS2
        have hlo7 := hC7.out.size
        have hM8 : Hid (∃ F1 F2 : Nat → Prop, MS w8 F1 g1 l M ([]) ∧ MS w8 F2 g2 l M ([]) ∧ (∀ q, F1 q → ¬ F2 q) ∧ (∀ q, F1 q → w.heap.size ≤ q) ∧ ∀ q, F2 q → w.heap.size ≤ q) := Lib.hid ⟨F1, F2, hMS1.out.chg hC8 (by simp), hMS2, fun q h1 h2 => by have h3 := hMS1.out.lt q h1; have h4 := hF2 q h2; omega, hF1.out, fun q hq => Nat.le_trans hlo7 (hF2 q hq)⟩
        replace hC8 := Lib.hid (hC7.out.trans hC8)
        clear hC7 hlo7 hMS1 hMS2 hF1 hF2 hnw hgood
        go_wp2_with fail
        go_loopw [82] (fun v82 wr => ∃ k : Nat, v82 = .int .i64 k ∧ k ≤ na ∧ Hid (∃ F1 F2 : Nat → Prop, MS wr F1 g1 l M (a.take k) ∧ MS wr F2 g2 l M ([]) ∧ (∀ q, F1 q → ¬ F2 q) ∧ (∀ q, F1 q → w.heap.size ≤ q) ∧ ∀ q, F2 q → w.heap.size ≤ q) ∧ Hid (Chg [] w wr)) (fun v82 _ => na - (intOf v82).toNat)
        case atStart => exact ⟨0, rfl, by omega, (by rw [List.take_zero]; exact hM8), hC8⟩
        case round =>
          clear hM8 hC8
          obtain ⟨k, rfl, hk, hM, hC⟩ := hrel
          obtain ⟨F1, F2, hMS1, hMS2, hdj, hF1, hF2⟩ := hM.out
          by_cases hkl : k < na
          · have hka : k < a.length := by have := hna.out; omega
            obtain ⟨ad, rfl, hcell⟩ := sl_at (hA'.out wr hC.out) (k := k) (u := .int .u8 (a[k]).toNat) (by simp [cellsOf, ns, hka])
            have htk : a.take (k + 1) = a.take k ++ [a[k]] := List.take_succ_eq_append_getElem hka
            generalize a[k] = cc at hcell htk
            have hlt9 : (a.take k).length < 900000 := by rw [List.length_take]; omega
            have hx := Lib.hid (feed_two (c := cc) hC.out hMS1 hMS2 hdj hF1 hlt9)
            rw [← htk] at hx
            replace hF2 := Lib.hid hF2
            replace htk := Lib.hid htk
            clear hMS1 hMS2 hdj hF1 hM hka hlt9
            go_wp2_with fail
            refine (hx.out).mono ?_
            rintro e w2 ⟨rfl, hMF2, hC2, -⟩
            obtain ⟨F1', h1, h2, h3, h4⟩ := hMF2.out
            have hM2 : Hid (∃ F1 F2 : Nat → Prop, MS w2 F1 g1 l M (a.take (k + 1)) ∧ MS w2 F2 g2 l M ([]) ∧ (∀ q, F1 q → ¬ F2 q) ∧ (∀ q, F1 q → w.heap.size ≤ q) ∧ ∀ q, F2 q → w.heap.size ≤ q) := Lib.hid ⟨F1', F2, h1, h2, h3, h4, hF2.out⟩
            clear h1 h2 h3 h4 hMF2 hx hcell
            go_wp2_with fail
            go_roundw
            case rel => exact ⟨k + 1, by go_num, by omega, hM2, hC2⟩
            case measure => simp [intOf]; omega
          · obtain rfl : na = k := by omega
            have hM9 : Hid (∃ F1 F2 : Nat → Prop, MS wr F1 g1 l M (a ++ b.take 0) ∧ MS wr F2 g2 l M (b.take 0) ∧ (∀ q, F1 q → ¬ F2 q) ∧ (∀ q, F1 q → w.heap.size ≤ q) ∧ ∀ q, F2 q → w.heap.size ≤ q) := by
              rw [List.take_of_length_le (by rw [hna.out]; exact Nat.le_refl _)] at hMS1
              rw [List.take_zero, List.append_nil]
              exact Lib.hid ⟨F1, F2, hMS1, hMS2, hdj, hF1, hF2⟩
            clear hMS1 hMS2 hdj hF1 hF2 hM hA'
            go_wp2_with fail
            go_loopw [92] (fun v92 wr => ∃ k : Nat, v92 = .int .i64 k ∧ k ≤ nb ∧ Hid (∃ F1 F2 : Nat → Prop, MS wr F1 g1 l M (a ++ b.take k) ∧ MS wr F2 g2 l M (b.take k) ∧ (∀ q, F1 q → ¬ F2 q) ∧ (∀ q, F1 q → w.heap.size ≤ q) ∧ ∀ q, F2 q → w.heap.size ≤ q) ∧ Hid (Chg [] w wr)) (fun v92 _ => nb - (intOf v92).toNat)
            case atStart => exact ⟨0, rfl, by omega, hM9, hC⟩
            case round =>
              clear hM9 hC
              obtain ⟨k, rfl, hk, hM, hC⟩ := hrel
              obtain ⟨F1, F2, hMS1, hMS2, hdj, hF1, hF2⟩ := hM.out
              by_cases hkl : k < nb
              rotate_left
              · clear hMS1 hMS2 hdj hF1 hF2 hM
                go_wp2_with fail
                go_ret
                exact ⟨rfl, hC.out.below⟩
              have hka : k < b.length := by have := hnb.out; omega
              obtain ⟨ad, rfl, hcell⟩ := sl_at (hB'.out wr hC.out) (k := k) (u := .int .u8 (b[k]).toNat) (by simp [cellsOf, ns, hka])
              have htk : b.take (k + 1) = b.take k ++ [b[k]] := List.take_succ_eq_append_getElem hka
              generalize b[k] = cc at hcell htk
              have hl1 : (a ++ b.take k).length < 900000 := by rw [List.length_append, List.length_take, hna.out]; omega
              have hl2 : (b.take k).length < 900000 := by rw [List.length_take]; omega
              have hl3 : (a ++ b.take (k + 1)).length = na + (k + 1) := by rw [List.length_append, List.length_take, hna.out, Nat.min_eq_left (by omega)]
              have hl4 : (b.take (k + 1)).length = k + 1 := by rw [List.length_take, Nat.min_eq_left (by omega)]
              have hx := fun (W : World) (F G : Nat → Prop) (hC : Chg [] w W) (H : MS W F g1 l M (a ++ b.take k)) (H' : MS W G g2 l M (b.take k)) (hFG : ∀ q, F q → ¬ G q) (hF : ∀ q, F q → w.heap.size ≤ q) => feed_two (c := cc) hC H H' hFG hF hl1
              have hy := fun (W : World) (F G : Nat → Prop) (hC : Chg [] w W) (H : MS W F g2 l M (b.take k)) (H' : MS W G g1 l M (a ++ b.take (k + 1))) (hFG : ∀ q, F q → ¬ G q) (hF : ∀ q, F q → w.heap.size ≤ q) => feed_two (c := cc) hC H H' hFG hF hl2
              simp only [List.append_assoc, ← htk, hl3, hl4, hitV_eq] at hx hy
              have hbe := fun h => hit_behind (M := M) (l := l) (a := a) (T := b.take (k + 1)) h
              rw [hl4, hna.out] at hbe
              have hfb : ∀ i f, hitOf M l (b.take (k + 1)) = some (i, f) → f ≤ k + 1 := fun i f h => by
                obtain ⟨x, _, h2⟩ := hit_lt h
                have := (from_spec h2).1
                rw [hl4] at this; exact this
              obtain ⟨o1, ho1⟩ : ∃ o, hitOf M l (a ++ b.take (k + 1)) = o := ⟨_, rfl⟩
              obtain ⟨o2, ho2⟩ : ∃ o, hitOf M l (b.take (k + 1)) = o := ⟨_, rfl⟩
              rw [ho1] at hx hbe
              rw [ho2] at hy hbe hfb
              clear ho1 ho2 hl1 hl2 hl3 hl4 hka hM
              replace htk := Lib.hid htk
              by_cases hcont : k + 1 < M
              · clear hbe hfb
                replace hx := Lib.hid hx
                replace hy := Lib.hid hy
                -- short
                go_wp2_with fail
                refine (hx.out _ _ _ hC.out hMS1 hMS2 hdj hF1).mono ?_
                rintro e w2 ⟨rfl, hMF2, hC2, -⟩
                have hC3 := Lib.hid (hC2.out.alloc (.cells #[.int .i64 (oi o1), .int .i64 (of_ o1), .int .i64 (on o1 (na + (k + 1)))] 34))
                have hb18 := Lib.hid (blk_new w2 (.cells #[.int .i64 (oi o1), .int .i64 (of_ o1), .int .i64 (on o1 (na + (k + 1)))] 34))
                obtain ⟨F1', hMS1', hMS2', hdj', hF1'⟩ := hMF2.out
                have hn18 : ¬ F2 w2.heap.size := fun h => by have := hMS2'.lt _ h; omega
                have hMS1n := hMS1'.chg ((Chg.refl [] w2).alloc (.cells #[.int .i64 (oi o1), .int .i64 (of_ o1), .int .i64 (on o1 (na + (k + 1)))] 34)) (by simp)
                have hMS2n := hMS2'.chg ((Chg.refl [] w2).alloc (.cells #[.int .i64 (oi o1), .int .i64 (of_ o1), .int .i64 (on o1 (na + (k + 1)))] 34)) (by simp)
                obtain ⟨g18, hg18⟩ : ∃ g18, w2.heap.size = g18 := ⟨_, rfl⟩
                rw [hg18] at hb18 hn18
                replace hMS1n := Lib.hid hMS1n
                replace hMS2n := Lib.hid hMS2n
                replace hdj' := Lib.hid hdj'
                replace hF1' := Lib.hid hF1'
                replace hn18 := Lib.hid hn18
                clear hMF2 hC2 hMS1' hMS2' hMS1 hMS2 hdj hF1 hC hx
                go_wp2_with fail
                generalize w2.alloc (.cells #[.int .i64 (oi o1), .int .i64 (of_ o1), .int .i64 (on o1 (na + (k + 1)))] 34) = w3 at hC3 hb18 hMS1n hMS2n ⊢
                clear hg18
                refine (hy.out _ _ _ hC3.out hMS2n.out hMS1n.out (fun q h1 h2 => hdj'.out q h2 h1) hF2).mono ?_
                rintro e w4 ⟨rfl, hMF4, hC4, hkeep⟩
                have hb184 := hkeep.out _ _ hn18.out hb18.out
                have hC5 := Lib.hid (hC4.out.alloc (.cells #[.int .i64 (oi o2), .int .i64 (of_ o2), .int .i64 (on o2 (k + 1))] 34))
                have hb20 := blk_new w4 (.cells #[.int .i64 (oi o2), .int .i64 (of_ o2), .int .i64 (on o2 (k + 1))] 34)
                have hal := (Chg.refl [] w4).alloc (.cells #[.int .i64 (oi o2), .int .i64 (of_ o2), .int .i64 (on o2 (k + 1))] 34)
                obtain ⟨F2', hMS2a, hMS1a, hdja, hF2a⟩ := hMF4.out
                have hM5 : Hid (∃ F1 F2 : Nat → Prop, MS (w4.alloc (.cells #[.int .i64 (oi o2), .int .i64 (of_ o2), .int .i64 (on o2 (k + 1))] 34)) F1 g1 l M (a ++ b.take (k + 1)) ∧ MS (w4.alloc (.cells #[.int .i64 (oi o2), .int .i64 (of_ o2), .int .i64 (on o2 (k + 1))] 34)) F2 g2 l M (b.take (k + 1)) ∧ (∀ q, F1 q → ¬ F2 q) ∧ (∀ q, F1 q → w.heap.size ≤ q) ∧ ∀ q, F2 q → w.heap.size ≤ q) := Lib.hid ⟨F1', F2', hMS1a.chg hal (by simp), hMS2a.chg hal (by simp), fun q h1 h2 => hdja q h2 h1, hF1'.out, hF2a⟩
                have hb18n := hal.heap hb184 (by simp)
                obtain ⟨g20, hg20⟩ : ∃ g20, w4.heap.size = g20 := ⟨_, rfl⟩
                rw [hg20] at hb20
                obtain ⟨p0, p1, p2⟩ := hit_cells hb18n
                obtain ⟨q0, q1, q2⟩ := hit_cells hb20
                replace hal := Lib.hid hal
                clear hMS1n hMS2n hdj' hF1' hn18 hMF4 hC4 hkeep hb184 hb18 hb20 hb18n hMS2a hMS1a hdja hF2a hC3 hF2 hy hal
                go_wp2_with fail
                generalize w4.alloc (.cells #[.int .i64 (oi o2), .int .i64 (of_ o2), .int .i64 (on o2 (k + 1))] 34) = w5 at hC5 hM5 p0 p1 p2 q0 q1 q2 ⊢
                go_roundw
                case rel => exact ⟨k + 1, by go_num, by omega, hM5, hC5⟩
                case measure => simp [intOf]; omega
              · have hbe' := hbe (by omega)
                clear hbe
                cases o2 with
                | none =>
                  rw [Option.map_none] at hbe'
                  subst hbe'
                  simp only [oi, of_, on, Option.isSome] at hx hy
                  replace hx := Lib.hid hx
                  replace hy := Lib.hid hy
                  -- none
                  go_wp2_with fail
                  refine (hx.out _ _ _ hC.out hMS1 hMS2 hdj hF1).mono ?_
                  rintro e w2 ⟨rfl, hMF2, hC2, -⟩
                  have hC3 := Lib.hid (hC2.out.alloc (.cells #[.int .i64 (0), .int .i64 (0), .int .i64 (0)] 34))
                  have hb18 := Lib.hid (blk_new w2 (.cells #[.int .i64 (0), .int .i64 (0), .int .i64 (0)] 34))
                  obtain ⟨F1', hMS1', hMS2', hdj', hF1'⟩ := hMF2.out
                  have hn18 : ¬ F2 w2.heap.size := fun h => by have := hMS2'.lt _ h; omega
                  have hMS1n := hMS1'.chg ((Chg.refl [] w2).alloc (.cells #[.int .i64 (0), .int .i64 (0), .int .i64 (0)] 34)) (by simp)
                  have hMS2n := hMS2'.chg ((Chg.refl [] w2).alloc (.cells #[.int .i64 (0), .int .i64 (0), .int .i64 (0)] 34)) (by simp)
                  obtain ⟨g18, hg18⟩ : ∃ g18, w2.heap.size = g18 := ⟨_, rfl⟩
                  rw [hg18] at hb18 hn18
                  replace hMS1n := Lib.hid hMS1n
                  replace hMS2n := Lib.hid hMS2n
                  replace hdj' := Lib.hid hdj'
                  replace hF1' := Lib.hid hF1'
                  replace hn18 := Lib.hid hn18
                  clear hMF2 hC2 hMS1' hMS2' hMS1 hMS2 hdj hF1 hC hx
                  go_wp2_with fail
                  generalize w2.alloc (.cells #[.int .i64 (0), .int .i64 (0), .int .i64 (0)] 34) = w3 at hC3 hb18 hMS1n hMS2n ⊢
                  clear hg18
                  refine (hy.out _ _ _ hC3.out hMS2n.out hMS1n.out (fun q h1 h2 => hdj'.out q h2 h1) hF2).mono ?_
                  rintro e w4 ⟨rfl, hMF4, hC4, hkeep⟩
                  have hb184 := hkeep.out _ _ hn18.out hb18.out
                  have hC5 := Lib.hid (hC4.out.alloc (.cells #[.int .i64 (0), .int .i64 (0), .int .i64 (0)] 34))
                  have hb20 := blk_new w4 (.cells #[.int .i64 (0), .int .i64 (0), .int .i64 (0)] 34)
                  have hal := (Chg.refl [] w4).alloc (.cells #[.int .i64 (0), .int .i64 (0), .int .i64 (0)] 34)
                  obtain ⟨F2', hMS2a, hMS1a, hdja, hF2a⟩ := hMF4.out
                  have hM5 : Hid (∃ F1 F2 : Nat → Prop, MS (w4.alloc (.cells #[.int .i64 (0), .int .i64 (0), .int .i64 (0)] 34)) F1 g1 l M (a ++ b.take (k + 1)) ∧ MS (w4.alloc (.cells #[.int .i64 (0), .int .i64 (0), .int .i64 (0)] 34)) F2 g2 l M (b.take (k + 1)) ∧ (∀ q, F1 q → ¬ F2 q) ∧ (∀ q, F1 q → w.heap.size ≤ q) ∧ ∀ q, F2 q → w.heap.size ≤ q) := Lib.hid ⟨F1', F2', hMS1a.chg hal (by simp), hMS2a.chg hal (by simp), fun q h1 h2 => hdja q h2 h1, hF1'.out, hF2a⟩
                  have hb18n := hal.heap hb184 (by simp)
                  obtain ⟨g20, hg20⟩ : ∃ g20, w4.heap.size = g20 := ⟨_, rfl⟩
                  rw [hg20] at hb20
                  obtain ⟨p0, p1, p2⟩ := hit_cells hb18n
                  obtain ⟨q0, q1, q2⟩ := hit_cells hb20
                  replace hal := Lib.hid hal
                  clear hMS1n hMS2n hdj' hF1' hn18 hMF4 hC4 hkeep hb184 hb18 hb20 hb18n hMS2a hMS1a hdja hF2a hC3 hF2 hy hal
                  go_wp2_with fail
                  generalize w4.alloc (.cells #[.int .i64 (0), .int .i64 (0), .int .i64 (0)] 34) = w5 at hC5 hM5 p0 p1 p2 q0 q1 q2 ⊢
                  go_roundw
                  case rel => exact ⟨k + 1, by go_num, by omega, hM5, hC5⟩
                  case measure => simp [intOf]; omega
                | some q =>
                  obtain ⟨i, f⟩ := q
                  rw [Option.map_some] at hbe'
                  subst hbe'
                  have hf9 := hfb i f rfl
                  have e1 : ((f + na : Nat) : Int) = (f : Int) + na := by omega
                  have e2 : ((na + (k + 1) : Nat) : Int) = (k : Int) + 1 + na := by omega
                  have e3 : ((k + 1 : Nat) : Int) = (k : Int) + 1 := by omega
                  simp only [oi, of_, on, Option.isSome, e1, e2, e3] at hx hy
                  clear e1 e2 e3 hfb
                  replace hx := Lib.hid hx
                  replace hy := Lib.hid hy
                  -- some
                  go_wp2_with fail
                  refine (hx.out _ _ _ hC.out hMS1 hMS2 hdj hF1).mono ?_
                  rintro e w2 ⟨rfl, hMF2, hC2, -⟩
                  have hC3 := Lib.hid (hC2.out.alloc (.cells #[.int .i64 ((i : Int)), .int .i64 ((f : Int) + na), .int .i64 ((k : Int) + 1 + na)] 34))
                  have hb18 := Lib.hid (blk_new w2 (.cells #[.int .i64 ((i : Int)), .int .i64 ((f : Int) + na), .int .i64 ((k : Int) + 1 + na)] 34))
                  obtain ⟨F1', hMS1', hMS2', hdj', hF1'⟩ := hMF2.out
                  have hn18 : ¬ F2 w2.heap.size := fun h => by have := hMS2'.lt _ h; omega
                  have hMS1n := hMS1'.chg ((Chg.refl [] w2).alloc (.cells #[.int .i64 ((i : Int)), .int .i64 ((f : Int) + na), .int .i64 ((k : Int) + 1 + na)] 34)) (by simp)
                  have hMS2n := hMS2'.chg ((Chg.refl [] w2).alloc (.cells #[.int .i64 ((i : Int)), .int .i64 ((f : Int) + na), .int .i64 ((k : Int) + 1 + na)] 34)) (by simp)
                  obtain ⟨g18, hg18⟩ : ∃ g18, w2.heap.size = g18 := ⟨_, rfl⟩
                  rw [hg18] at hb18 hn18
                  replace hMS1n := Lib.hid hMS1n
                  replace hMS2n := Lib.hid hMS2n
                  replace hdj' := Lib.hid hdj'
                  replace hF1' := Lib.hid hF1'
                  replace hn18 := Lib.hid hn18
                  clear hMF2 hC2 hMS1' hMS2' hMS1 hMS2 hdj hF1 hC hx
                  go_wp2_with fail
                  generalize w2.alloc (.cells #[.int .i64 ((i : Int)), .int .i64 ((f : Int) + na), .int .i64 ((k : Int) + 1 + na)] 34) = w3 at hC3 hb18 hMS1n hMS2n ⊢
                  clear hg18
                  refine (hy.out _ _ _ hC3.out hMS2n.out hMS1n.out (fun q h1 h2 => hdj'.out q h2 h1) hF2).mono ?_
                  rintro e w4 ⟨rfl, hMF4, hC4, hkeep⟩
                  have hb184 := hkeep.out _ _ hn18.out hb18.out
                  have hC5 := Lib.hid (hC4.out.alloc (.cells #[.int .i64 ((i : Int)), .int .i64 ((f : Int)), .int .i64 ((k : Int) + 1)] 34))
                  have hb20 := blk_new w4 (.cells #[.int .i64 ((i : Int)), .int .i64 ((f : Int)), .int .i64 ((k : Int) + 1)] 34)
                  have hal := (Chg.refl [] w4).alloc (.cells #[.int .i64 ((i : Int)), .int .i64 ((f : Int)), .int .i64 ((k : Int) + 1)] 34)
                  obtain ⟨F2', hMS2a, hMS1a, hdja, hF2a⟩ := hMF4.out
                  have hM5 : Hid (∃ F1 F2 : Nat → Prop, MS (w4.alloc (.cells #[.int .i64 ((i : Int)), .int .i64 ((f : Int)), .int .i64 ((k : Int) + 1)] 34)) F1 g1 l M (a ++ b.take (k + 1)) ∧ MS (w4.alloc (.cells #[.int .i64 ((i : Int)), .int .i64 ((f : Int)), .int .i64 ((k : Int) + 1)] 34)) F2 g2 l M (b.take (k + 1)) ∧ (∀ q, F1 q → ¬ F2 q) ∧ (∀ q, F1 q → w.heap.size ≤ q) ∧ ∀ q, F2 q → w.heap.size ≤ q) := Lib.hid ⟨F1', F2', hMS1a.chg hal (by simp), hMS2a.chg hal (by simp), fun q h1 h2 => hdja q h2 h1, hF1'.out, hF2a⟩
                  have hb18n := hal.heap hb184 (by simp)
                  obtain ⟨g20, hg20⟩ : ∃ g20, w4.heap.size = g20 := ⟨_, rfl⟩
                  rw [hg20] at hb20
                  obtain ⟨p0, p1, p2⟩ := hit_cells hb18n
                  obtain ⟨q0, q1, q2⟩ := hit_cells hb20
                  replace hal := Lib.hid hal
                  clear hMS1n hMS2n hdj' hF1' hn18 hMF4 hC4 hkeep hb184 hb18 hb20 hb18n hMS2a hMS1a hdja hF2a hC3 hF2 hy hal
                  go_wp2_with fail
                  generalize w4.alloc (.cells #[.int .i64 ((i : Int)), .int .i64 ((f : Int)), .int .i64 ((k : Int) + 1)] 34) = w5 at hC5 hM5 p0 p1 p2 q0 q1 q2 ⊢
                  go_roundw
                  case rel => exact ⟨k + 1, by go_num, by omega, hM5, hC5⟩
                  case measure => simp [intOf]; omega
theorem matchBehind_row (a0 : Array Value) (v1 : Value) (d1 : Dt) (v2 : Value) (d2 : Dt) (w : World) (h0 : a0.size = 2 ∧ ∀ (i : Nat) (u : Value), a0[i]? = some u → ∃ d, Reads w (.sl [.int .u8]) u d) (hb : ∀ A n c A' n' c', a0 = #[.slice A n c, .slice A' n' c'] → n + n' ≤ 1048576) (h1 : Reads w (.int .i64) v1 d1) (h2 : Reads w (.sl [.int .i64, .str]) v2 d2) :
    Calls Try.prog 8 #[.agg a0, v1, v2] w fun e w' => e = .returned (.bool true) ∧ Below w.heap.size w w' := by
  obtain ⟨n, rfl, b1, b2⟩ := i64_of_reads h1
  obtain ⟨A, c, l, rfl, hS, hl2, hc2, hp⟩ := brs_of_reads h2
  obtain ⟨hs, hr⟩ := h0
  obtain ⟨u0, u1, rfl⟩ : ∃ u0 u1, a0 = #[u0, u1] := by
    obtain ⟨l0⟩ := a0
    match l0, hs with
    | [u0, u1], _ => exact ⟨u0, u1, rfl⟩
  obtain ⟨e0, r0⟩ := hr 0 u0 rfl
  obtain ⟨e1, r1⟩ := hr 1 u1 rfl
  obtain ⟨Aa, ca, a, rfl, hA, _, _⟩ := ns_of_reads r0
  obtain ⟨Ab, cb, b, rfl, hB, _, _⟩ := ns_of_reads r1
  exact matchBehind_walk n b1 b2 A Aa Ab a b l _ c _ ca _ cb rfl rfl rfl (hb _ _ _ _ _ _ rfl) hp w hA hB hS
end Mt
end Go.Proofs.Ytojgdmpnbgikeaa
