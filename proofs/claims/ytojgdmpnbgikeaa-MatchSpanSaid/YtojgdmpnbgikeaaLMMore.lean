/- The law MatchMore, walked. No condition. -/
import Derived.Test.YtojgdmpnbgikeaaLFirst
import Derived.Test.YtojgdmpnbgikeaaMore
set_option linter.unusedVariables false
set_option linter.unusedSimpArgs false
namespace Go.Proofs.Ytojgdmpnbgikeaa
open Go.RowKit PMatchFeeds YtojgdmpnbgikeaaW.PrintWords
namespace Mt
open Kmp Glob
/-- What First tells of right branches. -/
def fV (o : Option (Nat × Nat × Nat)) : Value := .tuple #[.agg #[.int .i64 (match o with | some p => (p.1 : Int) | none => 0), .int .i64 (match o with | some p => (p.2.1 : Int) | none => 0), .int .i64 (match o with | some p => (p.2.2 : Int) | none => 0)], .bool o.isSome, .int .i64 0]
theorem firstV_ok {most : Int} {l : List Br} {b : List UInt8} (h : newErr most l = 0) : firstV most l b = fV (firstOf most.toNat l b) := by
  rw [firstV, if_neg (by rw [h]; simp)]
  cases firstOf most.toNat l b <;> rfl
theorem brCells_take (l : List Br) (k : Nat) : (brCells l).take (k * 2) = brCells (l.take k) := by
  induction l generalizing k with
  | nil => simp [brCells]
  | cons x l ih =>
    cases k with
    | zero => simp [brCells]
    | succ k =>
      have e : ∀ l', brCells (x :: l') = .int .i64 x.kind :: .string (bs x.pat) :: brCells l' := fun l' => rfl
      rw [List.take_succ_cons, e, e, show (k + 1) * 2 = k * 2 + 1 + 1 by omega, List.take_succ_cons, List.take_succ_cons, ih]
set_option maxRecDepth 100000 in
set_option maxHeartbeats 16000000 in
theorem matchMore_walk (most : Int) (m1 : -9223372036854775808 ≤ most) (m2 : most ≤ 9223372036854775807) (A Ab : Option Addr) (b : List UInt8) (l : List Br) (x : Br) (n c nb cb : Nat) (hn : l.length = n) (hnb : b.length = nb) (hl : ∀ y ∈ l ++ [x], y.pat.length ≤ 9223372036854775807) (w : World)
    (hB : Sl w 1 (.slice Ab nb cb) nb (cellsOf .u8 (ns b))) (hS : Sl w 2 (.slice A (n + 1) c) (n + 1) (brCells (l ++ [x]))) :
    Calls Try.prog 6 #[.int .i64 most, .slice Ab nb cb, .slice A (n + 1) c] w fun e w' => e = .returned (.bool true) ∧ Below w.heap.size w w' := by
  have hcc := sl_max hS
  have hn9 : n + 1 ≤ 9223372036854775807 := by unfold maxLen at hcc; omega
  have hnc : n + 1 ≤ c := hcc.1
  clear hcc
  have hln : (l ++ [x]).length = n + 1 := by simp [hn]
  have hS1 : Sl w 2 (.slice A n c) n (brCells l) := by
    have := hS.upto n (by omega)
    rw [brCells_take] at this
    simpa [← hn] using this
  have hgr := fun W (hW : Chg [] w W) => great_any W b (l ++ [x]) A Ab (n + 1) c nb cb hln (hS.chg hW (by simp)) hnb (hB.chg hW (by simp))
  have hck := fun W (hW : Chg [] w W) => check_ref W most m1 m2 (l ++ [x]) A (n + 1) c hln hn9 (hS.chg hW (by simp)) hl
  have hfa := fun W (hW : Chg [] w W) (h9 : nb < 900000) => mfirst_any W most (l ++ [x]) b A Ab (n + 1) c nb cb hln (hS.chg hW (by simp)) hl hnb (hB.chg hW (by simp)) h9
  have hfl := fun W (hW : Chg [] w W) (h9 : nb < 900000) => mfirst_any W most l b A Ab n c nb cb hn (hS1.chg hW (by simp)) (fun y hy => hl y (by simp [hy])) hnb (hB.chg hW (by simp)) h9
  have hz1 : newErr most (l ++ [x]) = 0 → newErr most l = 0 := fun h => new_snoc (new_zero h).1 (new_zero h).2.1 (new_zero h).2.2.1 (new_zero h).2.2.2
  have hmc := more_cases most.toNat l x b
  rw [hn] at hmc
  replace hgr := Lib.hid hgr
  replace hck := Lib.hid hck
  replace hfa := Lib.hid hfa
  replace hfl := Lib.hid hfl
  replace hz1 := Lib.hid hz1
  replace hmc := Lib.hid hmc
  clear hB hS hS1 hl hn hln hnb
  go_enter Try.func6, Try.ntmps6
  go_wp2_with fail
  refine (alive_any _).mono ?_
  rintro e w1 ⟨rfl, hC1⟩
  replace hC1 := Lib.hid hC1
  go_wp2_with fail
  refine (hgr.out _ hC1.out).mono ?_
  rintro e w2 ⟨v, rfl, hv, hC2⟩
  replace hC2 := Lib.hid (hC1.out.trans hC2.out)
  clear hC1 hgr
  cases v with
  | true =>
    clear hv hck hfa hfl hmc hz1
    go_wp2_with fail
    refine (alive_any _).mono ?_
    rintro e w3 ⟨rfl, hC3⟩
    replace hC3 := Lib.hid (hC2.out.trans hC3)
    go_wp2_with fail
    go_ret
    exact ⟨rfl, hC3.out.below⟩
  | false =>
    obtain ⟨h60, h70⟩ := hv.out rfl
    clear hv
    go_wp2_with fail
    refine (hck.out _ hC2.out).mono ?_
    rintro e w3 ⟨rfl, hC3⟩
    replace hC3 := Lib.hid (hC2.out.trans hC3)
    clear hC2 hck
    rcases Classical.em (newErr most (l ++ [x]) = 0) with h0 | h0
    rotate_left
    · obtain ⟨er, her⟩ : ∃ er, newErr most (l ++ [x]) = er := ⟨_, rfl⟩
      rw [her] at h0 ⊢
      have h0' : (er != 0) = true := by simpa using h0
      replace her := Lib.hid her
      clear hfa hfl hmc hz1
      go_wp2_with fail
      refine (alive_any _).mono ?_
      rintro e w4 ⟨rfl, hC4⟩
      replace hC4 := Lib.hid (hC3.out.trans hC4)
      go_wp2_with fail
      go_ret
      exact ⟨rfl, hC4.out.below⟩
    · rw [h0]
      have h1 := hz1.out h0
      have h9 : nb < 900000 := by clear h0 h1; omega
      have hfa' := fun W hW => hfa.out W hW h9
      have hfl' := fun W hW => hfl.out W hW h9
      unfold FiEnd at hfa' hfl'
      rw [firstV_ok h0] at hfa'
      rw [firstV_ok h1] at hfl'
      obtain ⟨G, hG⟩ : ∃ G, firstOf most.toNat (l ++ [x]) b = G := ⟨_, rfl⟩
      obtain ⟨H, hH⟩ : ∃ H, firstOf most.toNat l b = H := ⟨_, rfl⟩
      rw [hG] at hfa' hmc
      rw [hH] at hfl' hmc
      replace hfa' := Lib.hid hfa'
      replace hfl' := Lib.hid hfl'
      clear hfa hfl hz1 h0 h1 hG hH
      have hmc' := hmc.out
      clear hmc
      rcases hmc' with ⟨rfl, rfl⟩ | ⟨f, t, rfl, rfl | ⟨i, f', t', rfl, hlt⟩⟩ | ⟨i, f, t, rfl, rfl, hlt⟩
      · -- way 0
        simp only [fV, Option.isSome] at hfa' hfl'
        go_wp2_with fail
        refine (hfl'.out _ hC3.out).mono ?_
        rintro e w4 ⟨hC4, rfl⟩
        have hC5 := Lib.hid ((hC3.out.trans hC4).alloc (.cells #[.int .i64 0, .int .i64 0, .int .i64 0] 34))
        have hb8 := blk_new w4 (.cells #[.int .i64 0, .int .i64 0, .int .i64 0] 34)
        obtain ⟨g8, hg8⟩ : ∃ g8, w4.heap.size = g8 := ⟨_, rfl⟩
        rw [hg8] at hb8
        replace hb8 := Lib.hid hb8
        clear hC3 hC4 hfl'
        go_wp2_with fail
        generalize w4.alloc (.cells #[.int .i64 0, .int .i64 0, .int .i64 0] 34) = w5 at hC5 hb8 ⊢
        clear hg8
        refine (hfa'.out _ hC5.out).mono ?_
        rintro e w6 ⟨hC6, rfl⟩
        have hb86 := (hC6.alloc (.cells #[.int .i64 0, .int .i64 0, .int .i64 0] 34)).heap hb8.out (by simp)
        have hb11 := blk_new w6 (.cells #[.int .i64 0, .int .i64 0, .int .i64 0] 34)
        obtain ⟨g11, hg11⟩ : ∃ g11, w6.heap.size = g11 := ⟨_, rfl⟩
        rw [hg11] at hb11
        obtain ⟨p0, p1, p2⟩ := hit_cells hb86
        obtain ⟨q0, q1, q2⟩ := hit_cells hb11
        have hC7 := Lib.hid ((hC5.out.trans hC6).alloc (.cells #[.int .i64 0, .int .i64 0, .int .i64 0] 34))
        clear hC5 hC6 hb8 hb86 hb11 hfa'
        go_wp2_with fail
        go_ret
        exact ⟨by first | rfl | (simp; done) | (simp; omega), hC7.out.below⟩
      · -- way 1
        simp only [fV, Option.isSome] at hfa' hfl'
        go_wp2_with fail
        refine (hfl'.out _ hC3.out).mono ?_
        rintro e w4 ⟨hC4, rfl⟩
        have hC5 := Lib.hid ((hC3.out.trans hC4).alloc (.cells #[.int .i64 0, .int .i64 0, .int .i64 0] 34))
        have hb8 := blk_new w4 (.cells #[.int .i64 0, .int .i64 0, .int .i64 0] 34)
        obtain ⟨g8, hg8⟩ : ∃ g8, w4.heap.size = g8 := ⟨_, rfl⟩
        rw [hg8] at hb8
        replace hb8 := Lib.hid hb8
        clear hC3 hC4 hfl'
        go_wp2_with fail
        generalize w4.alloc (.cells #[.int .i64 0, .int .i64 0, .int .i64 0] 34) = w5 at hC5 hb8 ⊢
        clear hg8
        refine (hfa'.out _ hC5.out).mono ?_
        rintro e w6 ⟨hC6, rfl⟩
        have hb86 := (hC6.alloc (.cells #[.int .i64 (n : Int), .int .i64 (f : Int), .int .i64 (t : Int)] 34)).heap hb8.out (by simp)
        have hb11 := blk_new w6 (.cells #[.int .i64 (n : Int), .int .i64 (f : Int), .int .i64 (t : Int)] 34)
        obtain ⟨g11, hg11⟩ : ∃ g11, w6.heap.size = g11 := ⟨_, rfl⟩
        rw [hg11] at hb11
        obtain ⟨p0, p1, p2⟩ := hit_cells hb86
        obtain ⟨q0, q1, q2⟩ := hit_cells hb11
        have hC7 := Lib.hid ((hC5.out.trans hC6).alloc (.cells #[.int .i64 (n : Int), .int .i64 (f : Int), .int .i64 (t : Int)] 34))
        clear hC5 hC6 hb8 hb86 hb11 hfa'
        go_wp2_with fail
        go_ret
        exact ⟨by first | rfl | (simp; done) | (simp; omega), hC7.out.below⟩
      · -- way 2
        simp only [fV, Option.isSome] at hfa' hfl'
        go_wp2_with fail
        refine (hfl'.out _ hC3.out).mono ?_
        rintro e w4 ⟨hC4, rfl⟩
        have hC5 := Lib.hid ((hC3.out.trans hC4).alloc (.cells #[.int .i64 (i : Int), .int .i64 (f' : Int), .int .i64 (t' : Int)] 34))
        have hb8 := blk_new w4 (.cells #[.int .i64 (i : Int), .int .i64 (f' : Int), .int .i64 (t' : Int)] 34)
        obtain ⟨g8, hg8⟩ : ∃ g8, w4.heap.size = g8 := ⟨_, rfl⟩
        rw [hg8] at hb8
        replace hb8 := Lib.hid hb8
        clear hC3 hC4 hfl'
        go_wp2_with fail
        generalize w4.alloc (.cells #[.int .i64 (i : Int), .int .i64 (f' : Int), .int .i64 (t' : Int)] 34) = w5 at hC5 hb8 ⊢
        clear hg8
        refine (hfa'.out _ hC5.out).mono ?_
        rintro e w6 ⟨hC6, rfl⟩
        have hb86 := (hC6.alloc (.cells #[.int .i64 (n : Int), .int .i64 (f : Int), .int .i64 (t : Int)] 34)).heap hb8.out (by simp)
        have hb11 := blk_new w6 (.cells #[.int .i64 (n : Int), .int .i64 (f : Int), .int .i64 (t : Int)] 34)
        obtain ⟨g11, hg11⟩ : ∃ g11, w6.heap.size = g11 := ⟨_, rfl⟩
        rw [hg11] at hb11
        obtain ⟨p0, p1, p2⟩ := hit_cells hb86
        obtain ⟨q0, q1, q2⟩ := hit_cells hb11
        have hC7 := Lib.hid ((hC5.out.trans hC6).alloc (.cells #[.int .i64 (n : Int), .int .i64 (f : Int), .int .i64 (t : Int)] 34))
        clear hC5 hC6 hb8 hb86 hb11 hfa'
        go_wp2_with fail
        go_ret
        exact ⟨by first | rfl | (simp; done) | (simp; omega), hC7.out.below⟩
      · -- way 3
        simp only [fV, Option.isSome] at hfa' hfl'
        go_wp2_with fail
        refine (hfl'.out _ hC3.out).mono ?_
        rintro e w4 ⟨hC4, rfl⟩
        have hC5 := Lib.hid ((hC3.out.trans hC4).alloc (.cells #[.int .i64 (i : Int), .int .i64 (f : Int), .int .i64 (t : Int)] 34))
        have hb8 := blk_new w4 (.cells #[.int .i64 (i : Int), .int .i64 (f : Int), .int .i64 (t : Int)] 34)
        obtain ⟨g8, hg8⟩ : ∃ g8, w4.heap.size = g8 := ⟨_, rfl⟩
        rw [hg8] at hb8
        replace hb8 := Lib.hid hb8
        clear hC3 hC4 hfl'
        go_wp2_with fail
        generalize w4.alloc (.cells #[.int .i64 (i : Int), .int .i64 (f : Int), .int .i64 (t : Int)] 34) = w5 at hC5 hb8 ⊢
        clear hg8
        refine (hfa'.out _ hC5.out).mono ?_
        rintro e w6 ⟨hC6, rfl⟩
        have hb86 := (hC6.alloc (.cells #[.int .i64 (i : Int), .int .i64 (f : Int), .int .i64 (t : Int)] 34)).heap hb8.out (by simp)
        have hb11 := blk_new w6 (.cells #[.int .i64 (i : Int), .int .i64 (f : Int), .int .i64 (t : Int)] 34)
        obtain ⟨g11, hg11⟩ : ∃ g11, w6.heap.size = g11 := ⟨_, rfl⟩
        rw [hg11] at hb11
        obtain ⟨p0, p1, p2⟩ := hit_cells hb86
        obtain ⟨q0, q1, q2⟩ := hit_cells hb11
        have hC7 := Lib.hid ((hC5.out.trans hC6).alloc (.cells #[.int .i64 (i : Int), .int .i64 (f : Int), .int .i64 (t : Int)] 34))
        clear hC5 hC6 hb8 hb86 hb11 hfa'
        go_wp2_with fail
        go_ret
        exact ⟨by first | rfl | (simp; done) | (simp; omega), hC7.out.below⟩
theorem matchMore_nil (most : Int) (v1 : Value) (A : Option Addr) (c : Nat) (w : World) :
    Calls Try.prog 6 #[.int .i64 most, v1, .slice A 0 c] w fun e w' => e = .returned (.bool true) ∧ Below w.heap.size w w' := by
  go_enter Try.func6, Try.ntmps6
  go_wp2_with fail
  refine (alive_any _).mono ?_
  rintro e w1 ⟨rfl, hC1⟩
  go_wp2_with fail
  go_ret
  exact ⟨rfl, hC1.below⟩
theorem matchMore_row (v0 : Value) (d0 : Dt) (v1 : Value) (d1 : Dt) (v2 : Value) (d2 : Dt) (w : World) (h0 : Reads w (.int .i64) v0 d0) (h1 : Reads w (.sl [.int .u8]) v1 d1) (h2 : Reads w (.sl [.int .i64, .str]) v2 d2) :
    Calls Try.prog 6 #[v0, v1, v2] w fun e w' => e = .returned (.bool true) ∧ Below w.heap.size w w' := by
  obtain ⟨n, rfl, b1, b2⟩ := i64_of_reads h0
  obtain ⟨Ab, cb, b, rfl, hB, hl1, hc1⟩ := ns_of_reads h1
  obtain ⟨A, c, l, rfl, hS, hl2, hc2, hp⟩ := brs_of_reads h2
  rcases List.eq_nil_or_concat l with rfl | ⟨l', x, rfl⟩
  · exact matchMore_nil n _ A c w
  · rw [List.concat_eq_append] at hS hp ⊢
    have e : (l' ++ [x]).length = l'.length + 1 := by simp
    rw [e] at hS ⊢
    exact matchMore_walk n b1 b2 A Ab b l' x _ c _ cb rfl rfl hp w hB hS
end Mt
end Go.Proofs.Ytojgdmpnbgikeaa
