/- The law MatchFeeds, walked. No condition. -/
import Derived.Test.YtojgdmpnbgikeaaLFirst
set_option linter.unusedVariables false
set_option linter.unusedSimpArgs false
namespace Go.Proofs.Ytojgdmpnbgikeaa
open Go.RowKit PMatchFeeds YtojgdmpnbgikeaaW.PrintWords
namespace Mt
open Kmp Glob
theorem MS.lt {w : World} {F : Nat → Prop} {g : Nat} {l : List Br} {most : Nat} {T : List UInt8} (H : MS w F g l most T) : ∀ k, F k → k < w.heap.size := by
  obtain ⟨x1, x2, x3, x4, x5, x6, x7, x8, x9, q1, q2, q3, q4, q5, q6, q7, q8⟩ := H
  exact q7
theorem feed_in {w0 w : World} {F : Nat → Prop} {g : Nat} {l : List Br} {M : Nat} {T : List UInt8} {c : UInt8} (hC : Chg [] w0 w) (H : MS w F g l M T) (hF : ∀ q, F q → w0.heap.size ≤ q) (hT : T.length < 900000) :
    Calls Try.prog 16 #[.pointer (some ⟨g, 0, none⟩), .int .u8 c.toNat] w fun e w' => e = .returned (hitV (hitOf M l (T ++ [c])) (T ++ [c]).length) ∧ Hid (∃ F', MS w' F' g l M (T ++ [c]) ∧ ∀ q, F' q → w0.heap.size ≤ q) ∧ Hid (Chg [] w0 w') ∧ Hid (∀ q o, ¬ F q → w.heap[q]? = some o → w'.heap[q]? = some o) := by
  refine (mfeed_any w F g l M T c H hT).mono ?_
  rintro e w' ⟨rfl, F', h1, h2, S, h3, h4⟩
  have hs := hC.size
  refine ⟨rfl, Lib.hid ⟨F', h1, fun q hq => ?_⟩, Lib.hid (hC.then h3 fun q hq => .inr (hF q (h4 q hq))), Lib.hid fun q o hq ho => h3.heap ho (fun hm => hq (h4 q hm))⟩
  rcases h2 q hq with h | h
  · exact hF q h
  · omega
theorem reset_in {w0 w : World} {F : Nat → Prop} {g : Nat} {l : List Br} {M : Nat} {T : List UInt8} (hC : Chg [] w0 w) (H : MS w F g l M T) (hF : ∀ q, F q → w0.heap.size ≤ q) (hg : GoodBr l) :
    Calls Try.prog 17 #[.pointer (some ⟨g, 0, none⟩)] w fun e w' => e = .returned (.tuple #[]) ∧ Hid (∃ F', MS w' F' g l M [] ∧ ∀ q, F' q → w0.heap.size ≤ q) ∧ Hid (Chg [] w0 w') := by
  refine (reset_any w F g l M (H.pre hg)).mono ?_
  rintro e w' ⟨rfl, F', h1, h2, S, h3, h4⟩
  have hs := hC.size
  refine ⟨rfl, Lib.hid ⟨F', h1, fun q hq => ?_⟩, Lib.hid (hC.then h3 fun q hq => .inr (hF q (h4 q hq)))⟩
  rcases h2 q hq with h | h
  · exact hF q h
  · omega
set_option maxRecDepth 100000 in
set_option maxHeartbeats 16000000 in
theorem matchFeeds_walk (most : Int) (m1 : -9223372036854775808 ≤ most) (m2 : most ≤ 9223372036854775807) (A Ab : Option Addr) (b : List UInt8) (l : List Br) (n c nb cb : Nat) (hn : l.length = n) (hnb : b.length = nb) (hl : ∀ x ∈ l, x.pat.length ≤ 9223372036854775807) (w : World)
    (hB : Sl w 1 (.slice Ab nb cb) nb (cellsOf .u8 (ns b))) (hS : Sl w 2 (.slice A n c) n (brCells l)) :
    Calls Try.prog 3 #[.int .i64 most, .slice Ab nb cb, .slice A n c] w fun e w' => e = .returned (.bool true) ∧ Below w.heap.size w w' := by
  have hn9 : n ≤ 9223372036854775807 := by
    have := sl_max hS
    unfold maxLen at this
    omega
  have hcb : nb ≤ cb := (sl_max hB).1
  have hgr := fun W (hW : Chg [] w W) => great_any W b l A Ab n c nb cb hn (hS.chg hW (by simp)) hnb (hB.chg hW (by simp))
  have hnw := fun W (hW : Chg [] w W) => mnew_any W most l A n c hn (hS.chg hW (by simp)) hl
  have hck := fun W (hW : Chg [] w W) => check_ref W most m1 m2 l A n c hn hn9 (hS.chg hW (by simp)) hl
  have hht : newErr most l = 0 → nb ≤ 60 → ∀ M : Nat, most = M → ∀ W, Chg [] w W → ∀ k, Calls Try.prog 13 #[.int .i64 M, .string (bs (b.take k)), .slice A n c] W fun e w' => e = .returned (.tuple #[.int .i64 (hitI (hitOf M l (b.take k))), .int .i64 (of_ (hitOf M l (b.take k)))]) ∧ Chg [] W w' := fun h0 h9 M hM W hW k => by
    subst hM
    exact hit_ref W M (by have := (new_zero h0).2.1; omega) (b.take k) (by rw [List.length_take]; omega) l A n c hn (by have := (new_zero h0).2.2.1; omega) (hS.chg hW (by simp)) (lgood (new_zero h0).2.2.2 hl)
  have hst := fun W (hW : Chg [] w W) k (hk : k ≤ nb) => by
    have hq : Sl W 1 (.slice Ab k cb) k (cellsOf .u8 (ns (b.take k))) := by
      have := (hB.chg hW (by simp)).upto k hk
      simpa [cellsOf, ns] using this
    have := sl_string (P := Try.prog) hq 22 5 9 Try.underlying22 Try.underlying5 Try.underlying9
    rwa [str_ns] at this
  have hat : ∀ W, Chg [] w W → ∀ k, k < nb → ∃ ad cc, Ab = some ad ∧ W.cell? (ad.add k) = some (.int .u8 (UInt8.toNat cc)) ∧ b.take (k + 1) = b.take k ++ [cc] := fun W hW k hk => by
    subst hnb
    obtain ⟨ad, h1, h2⟩ := sl_at (hB.chg hW (by simp)) (k := k) (u := .int .u8 (b[k]).toNat) (by simp [cellsOf, ns, hk])
    exact ⟨ad, b[k], h1, h2, List.take_succ_eq_append_getElem hk⟩
  replace hgr := Lib.hid hgr
  replace hnw := Lib.hid hnw
  replace hck := Lib.hid hck
  replace hht := Lib.hid hht
  replace hst := Lib.hid hst
  replace hat := Lib.hid hat
  clear hB hS hl hn hn9
  replace hnb := Lib.hid hnb
  go_enter Try.func3, Try.ntmps3
  go_wp2_with fail
  refine (alive_any _).mono ?_
  rintro e w1 ⟨rfl, hC1⟩
  replace hC1 := Lib.hid hC1
  go_wp2_with fail
  refine (hgr.out _ hC1.out).mono ?_
  rintro e w2 ⟨v, rfl, hv, hC2⟩
  replace hC2 := Lib.hid (hC1.out.trans hC2.out)
  clear hC1 hgr
  cases v with
  | true =>
    clear hv hnw hck hht hst hat
    go_wp2_with fail
    refine (alive_any _).mono ?_
    rintro e w3 ⟨rfl, hC3⟩
    replace hC3 := Lib.hid (hC2.out.trans hC3)
    go_wp2_with fail
    go_ret
    exact ⟨rfl, hC3.out.below⟩
  | false =>
    obtain ⟨h60, h70⟩ := hv.out rfl
    have hht' := fun h0 => hht.out h0 h60
    replace hht' := Lib.hid hht'
    clear hv hht
    go_wp2_with fail
    refine (hnw.out _ hC2.out).mono ?_
    rintro e w3 ⟨hC3, hcase⟩
    replace hC3 := Lib.hid (hC2.out.trans hC3)
    have hs2 := hC2.out.size
    clear hnw hC2
    rcases hcase with ⟨hne, rfl⟩ | ⟨h0, hgood, g, F, rfl, hMS, hF⟩
    · obtain ⟨er, her⟩ : ∃ er, newErr most l = er := ⟨_, rfl⟩
      rw [her] at hne hck ⊢
      have hne' : (er != 0) = true := by simpa using hne
      replace her := Lib.hid her
      clear hht' hst hat
      go_wp2_with fail
      refine (hck.out _ hC3.out).mono ?_
      rintro e w4 ⟨rfl, hC4⟩
      replace hC4 := Lib.hid (hC3.out.trans hC4)
      go_wp2_with fail
      go_ret
      exact ⟨by first | rfl | (simp; done), hC4.out.below⟩
    · obtain ⟨M, hM⟩ := Int.eq_ofNat_of_zero_le (show 0 ≤ most by have := (new_zero h0).1; omega)
      have hht := Lib.hid (hht'.out h0 M hM)
      rw [h0] at hck
      subst hM
      rw [Int.toNat_natCast] at hMS
      replace hF : ∀ q, F q → w.heap.size ≤ q := fun q hq => Nat.le_trans hs2 (hF q hq)
      have hMF : Hid (∃ F : Nat → Prop, MS w3 F g l M [] ∧ ∀ q, F q → w.heap.size ≤ q) := Lib.hid ⟨F, hMS, hF⟩
      replace hgood := Lib.hid hgood
      clear hht' h0 hMS hF hs2
      go_wp2_with fail
      refine (hck.out _ hC3.out).mono ?_
      rintro e w4 ⟨rfl, hC4⟩
      replace hMF : Hid (∃ F : Nat → Prop, MS w4 F g l M [] ∧ ∀ q, F q → w.heap.size ≤ q) := by obtain ⟨F, h1, h2⟩ := hMF.out; exact Lib.hid ⟨F, h1.chg hC4 (by simp), h2⟩
      replace hC4 := Lib.hid (hC3.out.trans hC4)
      clear hck hC3
      go_wp2_with fail
      go_loopw [56] (fun v56 wr => ∃ j : Nat, v56 = .int .i64 j ∧ j ≤ 2 ∧ Hid (∃ F : Nat → Prop, MS wr F g l M [] ∧ ∀ q, F q → w.heap.size ≤ q) ∧ Hid (Chg [] w wr)) (fun v56 _ => 2 - (intOf v56).toNat)
      case atStart => exact ⟨0, rfl, by omega, hMF, hC4⟩
      case round =>
        clear hMF hC4
        obtain ⟨j, rfl, hj, hMF, hC⟩ := hrel
        by_cases hlt : j < 2
        rotate_left
        · obtain rfl : j = 2 := by omega
          go_wp2_with fail
          go_ret
          exact ⟨rfl, hC.out.below⟩
        have hh0 := hht.out wr hC.out 0
        rw [List.take_zero] at hh0
        obtain ⟨o0, ho0⟩ : ∃ o, hitOf M l [] = o := ⟨_, rfl⟩
        have hst0 := fun (W : World) (F : Nat → Prop) (H : MS W F g l M []) => mstart_any W F g l M [] H (fun x hx h1 => ((hgood.out.2 x hx).2.2 h1).1)
        rw [ho0] at hh0 hst0
        replace hst0 := Lib.hid hst0
        replace hh0 := Lib.hid hh0
        replace ho0 := Lib.hid ho0
        go_wp2_with fail
        refine (hh0.out).mono ?_
        rintro e w5 ⟨rfl, hC5⟩
        have hC5' := Lib.hid (hC.out.trans hC5)
        replace hMF : Hid (∃ F : Nat → Prop, MS w5 F g l M [] ∧ ∀ q, F q → w.heap.size ≤ q) := by obtain ⟨F, h1, h2⟩ := hMF.out; exact Lib.hid ⟨F, h1.chg hC5 (by simp), h2⟩
        clear hC hC5 hh0
        go_wp2_with fail
        refine (hit_v _ o0 0).mono ?_
        rintro e w6 ⟨rfl, hC6⟩
        rw [hitV_eq]
        have hC7 := hC6.alloc (.cells #[.int .i64 (oi o0), .int .i64 (of_ o0), .int .i64 (on o0 0)] 34)
        have hb12 := blk_new w6 (.cells #[.int .i64 (oi o0), .int .i64 (of_ o0), .int .i64 (on o0 0)] 34)
        obtain ⟨g12, hg12⟩ : ∃ g12, w6.heap.size = g12 := ⟨_, rfl⟩
        rw [hg12] at hb12
        replace hMF : Hid (∃ F : Nat → Prop, MS (w6.alloc (.cells #[.int .i64 (oi o0), .int .i64 (of_ o0), .int .i64 (on o0 0)] 34)) F g l M [] ∧ ∀ q, F q → w.heap.size ≤ q) := by obtain ⟨F, h1, h2⟩ := hMF.out; exact Lib.hid ⟨F, h1.chg hC7 (by simp), h2⟩
        replace hC7 := Lib.hid (hC5'.out.trans hC7)
        replace hb12 := Lib.hid hb12
        clear hC6 hC5'
        go_wp2_with fail
        generalize w6.alloc (.cells #[.int .i64 (oi o0), .int .i64 (of_ o0), .int .i64 (on o0 0)] 34) = w7 at hC7 hb12 hMF ⊢
        clear hg12
        obtain ⟨F, hMS, hF⟩ := hMF.out
        refine (hst0.out _ F hMS).mono ?_
        rintro e w8 ⟨rfl, hC8⟩
        rw [hitV_eq]
        have hC9 := hC8.alloc (.cells #[.int .i64 (oi o0), .int .i64 (of_ o0), .int .i64 (on o0 0)] 34)
        have hbw := blk_new w8 (.cells #[.int .i64 (oi o0), .int .i64 (of_ o0), .int .i64 (on o0 0)] 34)
        obtain ⟨g14, hg14⟩ : ∃ g14, w8.heap.size = g14 := ⟨_, rfl⟩
        rw [hg14] at hbw
        obtain ⟨p0, p1, p2⟩ := hit_cells (hC9.heap hb12.out (by simp))
        obtain ⟨q0, q1, q2⟩ := hit_cells hbw
        have hMS9 := hMS.chg hC9 (by simp)
        replace hMF : Hid (∃ F : Nat → Prop, MS (w8.alloc (.cells #[.int .i64 (oi o0), .int .i64 (of_ o0), .int .i64 (on o0 0)] 34)) F g l M [] ∧ ∀ q, F q → w.heap.size ≤ q) := Lib.hid ⟨F, hMS9, hF⟩
        replace hC9 := Lib.hid (hC7.out.trans hC9)
        clear hMS hF hMS9 hC8 hC7 hb12 hbw
        go_wp2_with fail
        generalize w8.alloc (.cells #[.int .i64 (oi o0), .int .i64 (of_ o0), .int .i64 (on o0 0)] 34) = w9 at hC9 hMF p0 p1 p2 q0 q1 q2 ⊢
        clear hg14 p0 p1 p2 q0 q1 q2
        go_loopw [85] (fun v85 wr => ∃ k : Nat, v85 = .int .i64 k ∧ k ≤ nb ∧ Hid (∃ F : Nat → Prop, MS wr F g l M (b.take k) ∧ ∀ q, F q → w.heap.size ≤ q) ∧ Hid (Chg [] w wr)) (fun v85 _ => nb - (intOf v85).toNat)
        case atStart => exact ⟨0, rfl, by omega, (by rw [List.take_zero]; exact hMF), hC9⟩
        case round =>
          clear hMF hC9
          obtain ⟨k, rfl, hk, hMF, hC⟩ := hrel
          by_cases hkl : k < nb
          rotate_left
          · obtain rfl : nb = k := by omega
            obtain ⟨F, hMS, hF⟩ := hMF.out
            have hrs := Lib.hid (reset_in hC.out hMS hF hgood.out)
            clear hMS hF hMF
            go_wp2_with fail
            refine (hrs.out).mono ?_
            rintro e w10 ⟨rfl, hMF, hC10⟩
            go_wp2_with fail
            go_roundw
            case rel => exact ⟨j + 1, by go_num, by omega, hMF, hC10⟩
            case measure => simp [intOf]; omega
          obtain ⟨ad, cc, rfl, hcell, htk⟩ := hat.out wr hC.out k hkl
          have hlen : (b.take (k + 1)).length = k + 1 := by rw [List.length_take, hnb.out]; omega
          have hlen0 : (b.take k).length < 900000 := by rw [List.length_take]; omega
          have hcv := hst.out wr hC.out (k + 1) (by omega)
          have hh := Lib.hid (hht.out wr hC.out (k + 1))
          obtain ⟨o1, ho1⟩ : ∃ o, hitOf M l (b.take (k + 1)) = o := ⟨_, rfl⟩
          rw [ho1] at hh
          have hfd := fun (W : World) (F : Nat → Prop) (hC : Chg [] w W) (H : MS W F g l M (b.take k)) (hF : ∀ q, F q → w.heap.size ≤ q) => feed_in (c := cc) hC H hF hlen0
          rw [← htk, ho1, hlen] at hfd
          replace hfd := Lib.hid hfd
          replace hlen := Lib.hid hlen
          replace hlen0 := Lib.hid hlen0
          replace ho1 := Lib.hid ho1
          replace htk := Lib.hid htk
          go_wp2_with fail
          refine (hh.out).mono ?_
          rintro e w5 ⟨rfl, hC5⟩
          have hC5' := Lib.hid (hC.out.trans hC5)
          replace hMF : Hid (∃ F : Nat → Prop, MS w5 F g l M (b.take k) ∧ ∀ q, F q → w.heap.size ≤ q) := by obtain ⟨F, h1, h2⟩ := hMF.out; exact Lib.hid ⟨F, h1.chg hC5 (by simp), h2⟩
          clear hC hC5 hh hcv hcell
          go_wp2_with fail
          refine (hit_v _ o1 (k + 1)).mono ?_
          rintro e w6 ⟨rfl, hC6⟩
          rw [hitV_eq]
          have hC7 := hC6.alloc (.cells #[.int .i64 (oi o1), .int .i64 (of_ o1), .int .i64 (on o1 (k + 1))] 34)
          have hb12 := blk_new w6 (.cells #[.int .i64 (oi o1), .int .i64 (of_ o1), .int .i64 (on o1 (k + 1))] 34)
          obtain ⟨g12, hg12⟩ : ∃ g12, w6.heap.size = g12 := ⟨_, rfl⟩
          have hg12F : ∀ (F : Nat → Prop), MS w6 F g l M (b.take k) → ¬ F g12 := fun F h1 h2 => by have := h1.lt _ h2; omega
          rw [hg12] at hb12
          replace hMF : Hid (∃ F : Nat → Prop, MS (w6.alloc (.cells #[.int .i64 (oi o1), .int .i64 (of_ o1), .int .i64 (on o1 (k + 1))] 34)) F g l M (b.take k) ∧ (∀ q, F q → w.heap.size ≤ q) ∧ ¬ F g12) := by obtain ⟨F, h1, h2⟩ := hMF.out; exact Lib.hid ⟨F, h1.chg hC7 (by simp), h2, hg12F F (h1.chg hC6 (by simp))⟩
          replace hC7 := Lib.hid (hC5'.out.trans hC7)
          replace hb12 := Lib.hid hb12
          clear hC6 hC5' hg12F
          go_wp2_with fail
          generalize w6.alloc (.cells #[.int .i64 (oi o1), .int .i64 (of_ o1), .int .i64 (on o1 (k + 1))] 34) = w7 at hC7 hb12 hMF ⊢
          clear hg12
          obtain ⟨F, hMS, hF, hFg⟩ := hMF.out
          refine (hfd.out _ F hC7.out hMS hF).mono ?_
          rintro e w8 ⟨rfl, hMF8, hC8, hkeep⟩
          rw [hitV_eq]
          have hb128 := hkeep.out g12 _ hFg hb12.out
          have hC9 := (Chg.refl [] w8).alloc (.cells #[.int .i64 (oi o1), .int .i64 (of_ o1), .int .i64 (on o1 (k + 1))] 34)
          have hbw := blk_new w8 (.cells #[.int .i64 (oi o1), .int .i64 (of_ o1), .int .i64 (on o1 (k + 1))] 34)
          obtain ⟨g14, hg14⟩ : ∃ g14, w8.heap.size = g14 := ⟨_, rfl⟩
          rw [hg14] at hbw
          obtain ⟨p0, p1, p2⟩ := hit_cells (hC9.heap hb128 (by simp))
          obtain ⟨q0, q1, q2⟩ := hit_cells hbw
          have hMF9 : Hid (∃ F : Nat → Prop, MS (w8.alloc (.cells #[.int .i64 (oi o1), .int .i64 (of_ o1), .int .i64 (on o1 (k + 1))] 34)) F g l M (b.take (k + 1)) ∧ ∀ q, F q → w.heap.size ≤ q) := by obtain ⟨F, h1, h2⟩ := hMF8.out; exact Lib.hid ⟨F, h1.chg hC9 (by simp), h2⟩
          replace hC9 := Lib.hid (hC8.out.trans hC9)
          clear hMS hF hFg hMF8 hC8 hC7 hb12 hb128 hbw hkeep hMF hfd
          go_wp2_with fail
          go_roundw
          case rel => exact ⟨k + 1, by go_num, by omega, hMF9, hC9⟩
          case measure => simp [intOf]; omega
theorem matchFeeds_row (v0 : Value) (d0 : Dt) (v1 : Value) (d1 : Dt) (v2 : Value) (d2 : Dt) (w : World) (h0 : Reads w (.int .i64) v0 d0) (h1 : Reads w (.sl [.int .u8]) v1 d1) (h2 : Reads w (.sl [.int .i64, .str]) v2 d2) :
    Calls Try.prog 3 #[v0, v1, v2] w fun e w' => e = .returned (.bool true) ∧ Below w.heap.size w w' := by
  obtain ⟨n, rfl, b1, b2⟩ := i64_of_reads h0
  obtain ⟨Ab, cb, b, rfl, hB, hl1, hc1⟩ := ns_of_reads h1
  obtain ⟨A, c, l, rfl, hS, hl2, hc2, hp⟩ := brs_of_reads h2
  exact matchFeeds_walk n b1 b2 A Ab b l _ c _ cb rfl rfl hp w hB hS
end Mt
end Go.Proofs.Ytojgdmpnbgikeaa
