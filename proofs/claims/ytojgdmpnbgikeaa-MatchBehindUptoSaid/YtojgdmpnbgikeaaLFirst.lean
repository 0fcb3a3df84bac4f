/- The law MatchFirst, walked. No condition. -/
import Derived.Test.YtojgdmpnbgikeaaGreat
import Derived.Test.YtojgdmpnbgikeaaMU8
import Derived.IntWalk
set_option linter.unusedVariables false
set_option linter.unusedSimpArgs false
namespace Go.Proofs.Ytojgdmpnbgikeaa
open Go.RowKit PMatchFeeds YtojgdmpnbgikeaaW.PrintWords
namespace Mt
open Kmp Glob
theorem hit_cells {w : World} {g : Nat} {a b c : Value} (h : w.heap[g]? = some (.cells #[a, b, c] 34 (0, 0))) : w.cell? ⟨g, 0, none⟩ = some a ∧ w.cell? ⟨g, 1, none⟩ = some b ∧ w.cell? ⟨g, 2, none⟩ = some c := by
  refine ⟨?_, ?_, ?_⟩ <;> simp [World.cell?, h]
theorem new_zero {most : Int} {l : List Br} (h : newErr most l = 0) : 1 ≤ most ∧ most ≤ 1048576 ∧ l.length ≤ 64 ∧ brErr l = 0 := by
  unfold newErr at h
  split at h
  · cases h
  · split at h
    · cases h
    · exact ⟨by omega, by omega, by omega, h⟩
theorem lgood {l : List Br} (h : brErr l = 0) (hl : ∀ x ∈ l, x.pat.length ≤ 9223372036854775807) : LGood l := fun x hx => ⟨(br_good h x hx).2.2, hl x hx⟩
theorem firstV_bad {most : Int} {l : List Br} {b : List UInt8} (h : newErr most l ≠ 0) : firstV most l b = .tuple #[.agg #[.int .i64 0, .int .i64 0, .int .i64 0], .bool false, .int .i64 (newErr most l)] := by rw [firstV, if_pos h]
theorem firstV_none {most : Int} {l : List Br} {b : List UInt8} (h : newErr most l = 0) (hf : firstOf most.toNat l b = none) : firstV most l b = .tuple #[.agg #[.int .i64 0, .int .i64 0, .int .i64 0], .bool false, .int .i64 0] := by
  rw [firstV, if_neg (by rw [h]; simp), hf]
theorem firstV_some {most : Int} {l : List Br} {b : List UInt8} {p : Nat × Nat × Nat} (h : newErr most l = 0) (hf : firstOf most.toNat l b = some p) : firstV most l b = .tuple #[.agg #[.int .i64 p.1, .int .i64 p.2.1, .int .i64 p.2.2], .bool true, .int .i64 0] := by
  rw [firstV, if_neg (by rw [h]; simp), hf]
set_option maxRecDepth 100000 in
set_option maxHeartbeats 16000000 in
theorem matchFirst_walk (most : Int) (m1 : -9223372036854775808 ≤ most) (m2 : most ≤ 9223372036854775807) (A Ab : Option Addr) (b : List UInt8) (l : List Br) (n c nb cb : Nat) (hn : l.length = n) (hnb : b.length = nb) (hl : ∀ x ∈ l, x.pat.length ≤ 9223372036854775807) (w : World)
    (hB : Sl w 1 (.slice Ab nb cb) nb (cellsOf .u8 (ns b))) (hS : Sl w 2 (.slice A n c) n (brCells l)) :
    Calls Try.prog 4 #[.int .i64 most, .slice Ab nb cb, .slice A n c] w fun e w' => e = .returned (.bool true) ∧ Below w.heap.size w w' := by
  have hn9 : n ≤ 9223372036854775807 := by
    have := sl_max hS
    unfold maxLen at this
    omega
  have hgr := fun W (hW : Chg [] w W) => great_any W b l A Ab n c nb cb hn (hS.chg hW (by simp)) hnb (hB.chg hW (by simp))
  have hfi := fun W (hW : Chg [] w W) (h9 : nb < 900000) => mfirst_any W most l b A Ab n c nb cb hn (hS.chg hW (by simp)) hl hnb (hB.chg hW (by simp)) h9
  have hck := fun W (hW : Chg [] w W) => check_ref W most m1 m2 l A n c hn hn9 (hS.chg hW (by simp)) hl
  have hfr : ∀ W, Chg [] w W → newErr most l = 0 → nb ≤ 100000 → Calls Try.prog 19 #[.int .i64 most, .string (bs b), .slice A n c] W fun e w' => e = .returned (firstI (firstOf most.toNat l b)) ∧ Chg [] W w' := fun W hW h0 h9 => by
    have := first_ref W most.toNat (by have := (new_zero h0).2.1; omega) b (by omega) l A n c hn (by have := (new_zero h0).2.2.1; omega) (hS.chg hW (by simp)) (lgood (new_zero h0).2.2.2 hl)
    rwa [Int.toNat_of_nonneg (by have := (new_zero h0).1; omega)] at this
  have hst := fun W (hW : Chg [] w W) => sl_string (P := Try.prog) (hB.chg hW (by simp)) 22 5 9 Try.underlying22 Try.underlying5 Try.underlying9
  rw [str_ns] at hst
  replace hgr := Lib.hid hgr
  replace hfi := Lib.hid hfi
  replace hck := Lib.hid hck
  replace hfr := Lib.hid hfr
  replace hst := Lib.hid hst
  clear hB hS hl hn hnb hn9
  go_enter Try.func4, Try.ntmps4
  go_wp2_with fail
  refine (reset_nil _).mono ?_
  rintro e w1 ⟨rfl, hw1⟩
  subst hw1
  go_wp2_with fail
  refine (start_nil _).mono ?_
  rintro e w2 ⟨rfl, hC2⟩
  have hb8 := blk_new w2 (.cells #[.int .i64 0, .int .i64 0, .int .i64 0] 34)
  have hC3 := hC2.alloc (.cells #[.int .i64 0, .int .i64 0, .int .i64 0] 34)
  obtain ⟨g8, hg8⟩ : ∃ g8, w2.heap.size = g8 := ⟨_, rfl⟩
  have hs8 := hC2.size
  rw [hg8] at hb8 hs8
  replace hb8 := Lib.hid hb8
  replace hC3 := Lib.hid hC3
  clear hC2
  go_wp2_with fail
  generalize w2.alloc (.cells #[.int .i64 0, .int .i64 0, .int .i64 0] 34) = w3 at hb8 hC3 ⊢
  clear hg8
  refine (feed_nil _ _).mono ?_
  rintro e w4 ⟨rfl, hC4⟩
  have hb8' := (hC4.heap hb8.out (by simp))
  have hb10 := blk_new w4 (.cells #[.int .i64 0, .int .i64 0, .int .i64 0] 34)
  have hC5 := (Chg.refl [] w4).alloc (.cells #[.int .i64 0, .int .i64 0, .int .i64 0] 34)
  have hb8'' := hC5.heap hb8' (by simp)
  replace hC5 := hC3.out.trans (hC4.trans hC5)
  obtain ⟨g10, hg10⟩ : ∃ g10, w4.heap.size = g10 := ⟨_, rfl⟩
  rw [hg10] at hb10
  replace hb10 := Lib.hid hb10
  replace hb8'' := Lib.hid hb8''
  replace hC5 := Lib.hid hC5
  clear hC4 hC3 hb8 hb8'
  go_wp2_with fail
  generalize w4.alloc (.cells #[.int .i64 0, .int .i64 0, .int .i64 0] 34) = w5 at hb8'' hb10 hC5 ⊢
  clear hg10
  refine (alive_any _).mono ?_
  rintro e w6 ⟨rfl, hC6⟩
  obtain ⟨p0, p1, p2⟩ := hit_cells (hC6.heap hb8''.out (by simp))
  obtain ⟨q0, q1, q2⟩ := hit_cells (hC6.heap hb10.out (by simp))
  replace hC6 := Lib.hid (hC5.out.trans hC6)
  clear hb8'' hb10 hC5
  go_wp2_with fail
  refine (hgr.out _ hC6.out).mono ?_
  rintro e w7 ⟨v, rfl, hv, hC7⟩
  replace hC7 := Lib.hid (hC6.out.trans hC7.out)
  clear p0 p1 p2 q0 q1 q2 hC6 hgr hs8
  cases v with
  | true =>
    clear hv hfi hck hfr hst
    go_wp2_with fail
    go_ret
    exact ⟨rfl, hC7.out.below⟩
  | false =>
    obtain ⟨h60, h70⟩ := hv.out rfl
    clear hv
    go_wp2_with fail
    refine (hfi.out _ hC7.out (by omega)).mono ?_
    rintro e w8 ⟨hC8, he⟩
    replace hC8 := Lib.hid (hC7.out.trans hC8)
    clear hC7 hfi
    have h105 : nb ≤ 100000 := by omega
    have hor : newErr most l ≠ 0 ∨ newErr most l = 0 := (Classical.em _).symm
    rcases hor with h0 | h0
    · replace he := he.trans (congrArg _ (firstV_bad h0))
      obtain ⟨er, her⟩ : ∃ er, newErr most l = er := ⟨_, rfl⟩
      rw [her] at h0 hck he
      subst he
      have hb12 := blk_new w8 (.cells #[.int .i64 0, .int .i64 0, .int .i64 0] 34)
      have hC9 := Lib.hid (hC8.out.alloc (.cells #[.int .i64 0, .int .i64 0, .int .i64 0] 34))
      obtain ⟨g12, hg12⟩ : ∃ g12, w8.heap.size = g12 := ⟨_, rfl⟩
      rw [hg12] at hb12
      replace hb12 := Lib.hid hb12
      have h0' : (er != 0) = true := by simpa using h0
      clear hC8 hfr hst
      replace her := Lib.hid her
      go_wp2_with fail
      generalize w8.alloc (.cells #[.int .i64 0, .int .i64 0, .int .i64 0] 34) = w9 at hb12 hC9 ⊢
      clear hg12
      refine (hck.out _ hC9.out).mono ?_
      rintro e w10 ⟨rfl, hC10⟩
      obtain ⟨p0, p1, p2⟩ := hit_cells (hC10.heap hb12.out (by simp))
      replace hC10 := Lib.hid (hC9.out.trans hC10)
      clear hb12 hC9 hck
      go_wp2_with fail
      go_ret
      exact ⟨by first | rfl | (simp; done), hC10.out.below⟩
    · have hfr' := fun W hW => hfr.out W hW h0 h105
      rw [h0] at hck
      cases hf : firstOf most.toNat l b with
      | none =>
        replace he := he.trans (congrArg _ (firstV_none h0 hf))
        subst he
        rw [hf] at hfr'
        have hb12 := blk_new w8 (.cells #[.int .i64 0, .int .i64 0, .int .i64 0] 34)
        have hC9 := Lib.hid (hC8.out.alloc (.cells #[.int .i64 0, .int .i64 0, .int .i64 0] 34))
        obtain ⟨g12, hg12⟩ : ∃ g12, w8.heap.size = g12 := ⟨_, rfl⟩
        rw [hg12] at hb12
        replace hb12 := Lib.hid hb12
        replace hfr' := Lib.hid hfr'
        replace h0 := Lib.hid h0
        clear hC8 hfr hf
        go_wp2_with fail
        generalize w8.alloc (.cells #[.int .i64 0, .int .i64 0, .int .i64 0] 34) = w9 at hb12 hC9 ⊢
        clear hg12
        refine (hck.out _ hC9.out).mono ?_
        rintro e w10 ⟨rfl, hC10⟩
        have hb12' := Lib.hid (hC10.heap hb12.out (by simp))
        replace hC10 := Lib.hid (hC9.out.trans hC10)
        clear hb12 hC9 hck
        have hs := hst.out _ hC10.out
        go_wp2_with fail
        refine (hfr'.out _ hC10.out).mono ?_
        rintro e w11 ⟨rfl, hC11⟩
        have hb13 := Lib.hid (hC11.heap hb12'.out (by simp))
        replace hC11 := Lib.hid (hC10.out.trans hC11)
        clear hC10 hb12' hs
        simp only [firstI]
        go_wp2_with fail
        refine (hit_no _ _ _ _ (by omega)).mono ?_
        rintro e w12 ⟨rfl, hC12⟩
        have hb14 := hC12.heap hb13.out (by simp)
        have hb15 := ((Chg.refl [] w12).alloc (.cells #[.int .i64 0, .int .i64 0, .int .i64 0] 34)).heap hb14 (by simp)
        have hbw := blk_new w12 (.cells #[.int .i64 0, .int .i64 0, .int .i64 0] 34)
        replace hC12 := Lib.hid ((hC11.out.trans hC12).alloc (.cells #[.int .i64 0, .int .i64 0, .int .i64 0] 34))
        obtain ⟨p0, p1, p2⟩ := hit_cells hb15
        obtain ⟨q0, q1, q2⟩ := hit_cells hbw
        clear hb15 hbw hb14 hb13 hC11
        go_wp2_with fail
        go_ret
        exact ⟨by first | rfl | (simp; done), hC12.out.below⟩
      | some p =>
        obtain ⟨i, f, t⟩ := p
        replace he := he.trans (congrArg _ (firstV_some h0 hf))
        simp only at he
        subst he
        rw [hf] at hfr'
        have hb12 := blk_new w8 (.cells #[.int .i64 i, .int .i64 f, .int .i64 t] 34)
        have hC9 := Lib.hid (hC8.out.alloc (.cells #[.int .i64 i, .int .i64 f, .int .i64 t] 34))
        obtain ⟨g12, hg12⟩ : ∃ g12, w8.heap.size = g12 := ⟨_, rfl⟩
        rw [hg12] at hb12
        replace hb12 := Lib.hid hb12
        replace hfr' := Lib.hid hfr'
        replace h0 := Lib.hid h0
        clear hC8 hfr hf
        go_wp2_with fail
        generalize w8.alloc (.cells #[.int .i64 i, .int .i64 f, .int .i64 t] 34) = w9 at hb12 hC9 ⊢
        clear hg12
        refine (hck.out _ hC9.out).mono ?_
        rintro e w10 ⟨rfl, hC10⟩
        have hb12' := Lib.hid (hC10.heap hb12.out (by simp))
        replace hC10 := Lib.hid (hC9.out.trans hC10)
        clear hb12 hC9 hck
        have hs := hst.out _ hC10.out
        go_wp2_with fail
        refine (hfr'.out _ hC10.out).mono ?_
        rintro e w11 ⟨rfl, hC11⟩
        have hb13 := Lib.hid (hC11.heap hb12'.out (by simp))
        replace hC11 := Lib.hid (hC10.out.trans hC11)
        clear hC10 hb12' hs
        simp only [firstI]
        go_wp2_with fail
        refine (hit_yes _ _ _ _ (by omega)).mono ?_
        rintro e w12 ⟨rfl, hC12⟩
        have hb14 := hC12.heap hb13.out (by simp)
        have hb15 := ((Chg.refl [] w12).alloc (.cells #[.int .i64 i, .int .i64 f, .int .i64 t] 34)).heap hb14 (by simp)
        have hbw := blk_new w12 (.cells #[.int .i64 i, .int .i64 f, .int .i64 t] 34)
        replace hC12 := Lib.hid ((hC11.out.trans hC12).alloc (.cells #[.int .i64 i, .int .i64 f, .int .i64 t] 34))
        obtain ⟨p0, p1, p2⟩ := hit_cells hb15
        obtain ⟨q0, q1, q2⟩ := hit_cells hbw
        clear hb15 hbw hb14 hb13 hC11
        go_wp2_with fail
        go_ret
        exact ⟨by first | rfl | (simp; done), hC12.out.below⟩
theorem matchFirst_row (v0 : Value) (d0 : Dt) (v1 : Value) (d1 : Dt) (v2 : Value) (d2 : Dt) (w : World) (h0 : Reads w (.int .i64) v0 d0) (h1 : Reads w (.sl [.int .u8]) v1 d1) (h2 : Reads w (.sl [.int .i64, .str]) v2 d2) :
    Calls Try.prog 4 #[v0, v1, v2] w fun e w' => e = .returned (.bool true) ∧ Below w.heap.size w w' := by
  obtain ⟨n, rfl, b1, b2⟩ := i64_of_reads h0
  obtain ⟨Ab, cb, b, rfl, hB, hl1, hc1⟩ := ns_of_reads h1
  obtain ⟨A, c, l, rfl, hS, hl2, hc2, hp⟩ := brs_of_reads h2
  exact matchFirst_walk n b1 b2 A Ab b l _ c _ cb rfl rfl hp w hB hS
end Mt
end Go.Proofs.Ytojgdmpnbgikeaa
