/- The law TclBytes, walked. No condition. -/
import Derived.Test.YteodhnblbehenaaTclPr4
import Derived.Test.YteodhnblbehenaaTclBackK
import Derived.Test.YteodhnblbehenaaTclU8
import Derived.Test.YteodhnblbehenaaReads
import Derived.Test.YteodhnblbehenaaTclAlive
import Derived.IntWalk
set_option linter.unusedVariables false
set_option linter.unusedSimpArgs false
namespace Go.Proofs.Yteodhnblbehenaa
open Go.RowKit Tcl PTclParses YteodhnblbehenaaW.PrintWords
theorem ckey_kcmd (c : Cmd) : ckey (kcmd c) = ckeyP c := by
  unfold ckey kcmd ckeyP
  rw [List.map_map]
  refine List.map_congr_left fun w _ => ?_
  simp only [Function.comp, wkey, kword, wkeyP]
  rw [List.map_map]
  congr 1
theorem sl_rows_new (w : World) (row : List Value) (e : TypeId) (size n : Nat) (hn : row.length = n * size) (hm : n ≤ maxLen) : Sl (w.alloc (.cells row.toArray e)) size (.slice (some ⟨w.heap.size, 0, none⟩) n n) n row := by
  refine ⟨_, n, rfl, by simp, Nat.le_refl _, hm, hn, fun _ => ⟨_, rfl, fun j u hu => ?_⟩⟩
  have ha : (⟨w.heap.size, 0, none⟩ : Addr).add j = ⟨w.heap.size, j, none⟩ := by unfold Addr.add; split <;> simp_all
  rw [ha]
  simp only [World.cell?, blk_new]
  simpa using hu
def wB (kd : Nat) (ps : List Part) : Word := ⟨0, kd, ps⟩
def wM (B : List UInt8) : Word := ⟨0, 0, [⟨true, [120]⟩, ⟨false, 49 :: B⟩]⟩
def lB (kd : Nat) (ps : List Part) (B : List UInt8) : List Cmd := [⟨0, [wB kd ps, wM B, wB kd ps]⟩, ⟨0, [wB kd ps]⟩]
theorem bytes_mem (W : World) (kd : Nat) (A : Option Addr) (c : Nat) (ps : List Part) (B : List UInt8) (hp : PartsAt W (.slice A ps.length c) ps) :
    k33.C ((((W.alloc (.cells #[.bool true, .string (bstr [120]), .bool false, .string (bstr (49 :: B))] 41)).alloc
      (.cells #[.int .i64 0, .int .i64 kd, .slice A ps.length c, .int .i64 0, .int .i64 0, .slice (some ⟨W.heap.size, 0, none⟩) 2 2, .int .i64 0, .int .i64 kd, .slice A ps.length c] 38)).alloc
      (.cells #[.int .i64 0, .int .i64 kd, .slice A ps.length c] 38)).alloc
      (.cells #[.int .i64 0, .slice (some ⟨W.heap.size + 1, 0, none⟩) 3 3, .int .i64 0, .slice (some ⟨W.heap.size + 2, 0, none⟩) 1 1] 33))
      (some ⟨W.heap.size + 3, 0, none⟩) 2 ((lB kd ps B).map kcmd) := by
  have hP := sl_rows_new W [.bool true, .string (bstr [120]), .bool false, .string (bstr (49 :: B))] 41 2 2 rfl (by decide)
  have z1 : (W.alloc (.cells #[.bool true, .string (bstr [120]), .bool false, .string (bstr (49 :: B))] 41)).heap.size = W.heap.size + 1 := Array.size_push ..
  have hp1 := hp.chg ((Chg.refl [] W).alloc (.cells #[.bool true, .string (bstr [120]), .bool false, .string (bstr (49 :: B))] 41)) (by simp)
  generalize W.alloc (.cells #[.bool true, .string (bstr [120]), .bool false, .string (bstr (49 :: B))] 41) = W1 at hP z1 hp1 ⊢
  have hW3 := sl_rows_new W1 [.int .i64 0, .int .i64 kd, .slice A ps.length c, .int .i64 0, .int .i64 0, .slice (some ⟨W.heap.size, 0, none⟩) 2 2, .int .i64 0, .int .i64 kd, .slice A ps.length c] 38 3 3 rfl (by decide)
  rw [z1] at hW3
  have c2 := (Chg.refl [] W1).alloc (.cells #[.int .i64 0, .int .i64 kd, .slice A ps.length c, .int .i64 0, .int .i64 0, .slice (some ⟨W.heap.size, 0, none⟩) 2 2, .int .i64 0, .int .i64 kd, .slice A ps.length c] 38)
  have z2 : (W1.alloc (.cells #[.int .i64 0, .int .i64 kd, .slice A ps.length c, .int .i64 0, .int .i64 0, .slice (some ⟨W.heap.size, 0, none⟩) 2 2, .int .i64 0, .int .i64 kd, .slice A ps.length c] 38)).heap.size = W.heap.size + 2 := by rw [← show W1.heap.size + 1 = W.heap.size + 2 by omega]; exact Array.size_push ..
  have hP2 := hP.chg c2 (by simp)
  have hp2 := hp1.chg c2 (by simp)
  generalize W1.alloc (.cells #[.int .i64 0, .int .i64 kd, .slice A ps.length c, .int .i64 0, .int .i64 0, .slice (some ⟨W.heap.size, 0, none⟩) 2 2, .int .i64 0, .int .i64 kd, .slice A ps.length c] 38) = W2 at hW3 z2 hP2 hp2 ⊢
  have hW1 := sl_rows_new W2 [.int .i64 0, .int .i64 kd, .slice A ps.length c] 38 3 1 rfl (by decide)
  rw [z2] at hW1
  have c3 := (Chg.refl [] W2).alloc (.cells #[.int .i64 0, .int .i64 kd, .slice A ps.length c] 38)
  have z3 : (W2.alloc (.cells #[.int .i64 0, .int .i64 kd, .slice A ps.length c] 38)).heap.size = W.heap.size + 3 := by rw [← show W2.heap.size + 1 = W.heap.size + 3 by omega]; exact Array.size_push ..
  have hP3 := hP2.chg c3 (by simp)
  have hp3 := hp2.chg c3 (by simp)
  have hW33 := hW3.chg c3 (by simp)
  generalize W2.alloc (.cells #[.int .i64 0, .int .i64 kd, .slice A ps.length c] 38) = W3 at hW1 z3 hP3 hp3 hW33 ⊢
  have hC := sl_rows_new W3 [.int .i64 0, .slice (some ⟨W.heap.size + 1, 0, none⟩) 3 3, .int .i64 0, .slice (some ⟨W.heap.size + 2, 0, none⟩) 1 1] 33 2 2 rfl (by decide)
  rw [z3] at hC
  have c4 := (Chg.refl [] W3).alloc (.cells #[.int .i64 0, .slice (some ⟨W.heap.size + 1, 0, none⟩) 3 3, .int .i64 0, .slice (some ⟨W.heap.size + 2, 0, none⟩) 1 1] 33)
  have hP4 := hP3.chg c4 (by simp)
  have hp4 := hp3.chg c4 (by simp)
  have hW34 := hW33.chg c4 (by simp)
  have hW14 := hW1.chg c4 (by simp)
  generalize W3.alloc (.cells #[.int .i64 0, .slice (some ⟨W.heap.size + 1, 0, none⟩) 3 3, .int .i64 0, .slice (some ⟨W.heap.size + 2, 0, none⟩) 1 1] 33) = W4 at hC hP4 hp4 hW34 hW14 ⊢
  have hws1 := (WordsAt.nil W4 0 none).snoc (wB kd ps) A c hp4 (fun q _ _ => ⟨Nat.zero_le _, by simp⟩)
  have hws2 := hws1.snoc (wM B) (some ⟨W.heap.size, 0, none⟩) 2 hP4 (fun q _ _ => ⟨Nat.zero_le _, by simp⟩)
  have hws3 := hws2.snoc (wB kd ps) A c hp4 (fun q _ _ => ⟨Nat.zero_le _, by simp⟩)
  have hcs1 := (CmdsAt.nil W4 0 none).snoc ⟨0, [wB kd ps, wM B, wB kd ps]⟩ (some ⟨W.heap.size + 1, 0, none⟩) 3 _ hW34 hws3 (fun q _ _ => ⟨Nat.zero_le _, by simp⟩)
  have hcs2 := hcs1.snoc ⟨0, [wB kd ps]⟩ (some ⟨W.heap.size + 2, 0, none⟩) 1 _ hW14 hws1 (fun q _ _ => ⟨Nat.zero_le _, by simp⟩)
  exact kcmds hC hcs2 rfl
theorem word_some {kd : Nat} {ps : List Part} {B : List UInt8} (hps : ps = if B = [] then [] else [⟨false, B⟩]) (hk : (kd = 0 ∧ B ≠ []) ∨ kd = 1) : ∃ x, wordK (wkeyP (wB kd ps)) = some x := by
  subst hps
  by_cases hB : B = []
  · have : kd = 1 := by rcases hk with h | h; exact absurd hB h.2; exact h
    subst this
    rw [if_pos hB]
    exact ⟨_, rfl⟩
  · rw [if_neg hB]
    have hp : ∀ k : Int, k ≠ 2 → ∃ x, partsK k none [(false, B)] = some x := fun k h2 => by
      rw [partsK, partK_text, if_neg (by simp [hB, h2])]
      rw [if_neg h2]
      exact ⟨_, rfl⟩
    rcases hk with ⟨rfl, -⟩ | rfl
    · obtain ⟨x, hx⟩ := hp 0 (by decide)
      refine ⟨x, ?_⟩
      show wordK ((0 : Int), [(false, B)]) = some x
      unfold wordK
      rw [if_neg (by simp), hx]
      simp
    · obtain ⟨x, hx⟩ := hp 1 (by decide)
      refine ⟨34 :: (x ++ [34]), ?_⟩
      show wordK ((1 : Int), [(false, B)]) = _
      unfold wordK
      rw [if_neg (by simp), hx]
      simp
theorem wM_some (B : List UInt8) : ∃ x, wordK (wkeyP (wM B)) = some x := by
  have hp : ∃ x, partsK 0 none [(true, [120]), (false, 49 :: B)] = some x := by
    rw [partsK, partK_var, if_neg (by decide)]
    simp only
    rw [partsK, partK_text, if_neg (by simp)]
    exact ⟨_, rfl⟩
  obtain ⟨x, hx⟩ := hp
  refine ⟨x, ?_⟩
  show wordK ((0 : Int), [(true, [120]), (false, 49 :: B)]) = some x
  unfold wordK
  rw [if_neg (by simp), hx]
  simp
theorem bytes_print {kd : Nat} {ps : List Part} {B : List UInt8} (hps : ps = if B = [] then [] else [⟨false, B⟩]) (hk : (kd = 0 ∧ B ≠ []) ∨ kd = 1) : ∃ t, printK ((lB kd ps B).map ckeyP) = some t := by
  obtain ⟨x, hx⟩ := word_some hps hk
  obtain ⟨y, hy⟩ := wM_some B
  have h1 : cmdK [wkeyP (wB kd ps), wkeyP (wM B), wkeyP (wB kd ps)] = some (x ++ (32 :: (y ++ (32 :: (x ++ []))))) := by
    rw [cmdK, hx]; simp only [moreK, hy, hx]
  have h2 : cmdK [wkeyP (wB kd ps)] = some (x ++ []) := by
    rw [cmdK, hx]; simp only [moreK]
  refine ⟨(x ++ (32 :: (y ++ (32 :: (x ++ []))))) ++ 10 :: ((x ++ []) ++ 10 :: []), ?_⟩
  show printK [[wkeyP (wB kd ps), wkeyP (wM B), wkeyP (wB kd ps)], [wkeyP (wB kd ps)]] = _
  rw [printK, h1]
  simp only [printK, h2]
theorem bytes_cost {kd : Nat} {ps : List Part} {B : List UInt8} (hps : ps = if B = [] then [] else [⟨false, B⟩]) (hB : B.length ≤ 300) : costL ((lB kd ps B).map ckeyP) ≤ 15000000 := by
  have hw : costK (wkeyP (wB kd ps)).2 ≤ 1201 := by
    subst hps
    by_cases h : B = []
    · rw [if_pos h]; exact Nat.zero_le _
    · rw [if_neg h]
      show costK [(false, B)] ≤ _
      simp [costK]; omega
  have hm : costK (wkeyP (wM B)).2 ≤ 1300 := by
    show costK [(true, [120]), (false, 49 :: B)] ≤ _
    simp [costK]; omega
  show costL [[wkeyP (wB kd ps), wkeyP (wM B), wkeyP (wB kd ps)], [wkeyP (wB kd ps)]] ≤ _
  simp only [costL, costC, costW, List.map_cons, List.map_nil, List.sum_cons, List.sum_nil]
  omega
set_option maxRecDepth 100000 in
set_option maxHeartbeats 16000000 in
theorem tclBytes_walk (A : Option Addr) (bs : List UInt8) (cap : Nat) (kind : Bool) (w : World) (hS : Sl w 1 (.slice A bs.length cap) bs.length (u8s bs)) (hl : bs.length ≤ cap) (hc : cap ≤ 9223372036854775807) :
    Calls Try.prog 8 #[.slice A bs.length cap, .bool kind] w fun e w' => e = .returned (.bool true) ∧ Below w.heap.size w w' := by
  have hu8 : ∀ l : List UInt8, u8s l = cellsOf .u8 (nums l) := fun l => by unfold u8s cellsOf nums; rw [List.map_map]; rfl
  rw [hu8] at hS
  have hS3 : 300 < bs.length → Sl w 1 (.slice A 300 cap) 300 (cellsOf .u8 (nums (bs.take 300))) := fun h => by
    obtain ⟨A0, c0, e0, h0, h1, h2, h3, h4⟩ := hS
    obtain ⟨rfl, rfl⟩ : A0 = A ∧ c0 = cap := by simp at e0; exact ⟨e0.1.symm, e0.2.symm⟩
    have hln : (cellsOf .u8 (nums (bs.take 300))).length = 300 := by simp [cellsOf, nums]; omega
    refine ⟨A0, c0, rfl, by first | exact h0 | (intro e; have := h0 e; omega) | simp_all, by omega, h2, by rw [hln], fun hx => ?_⟩
    obtain ⟨ad, rfl, hr⟩ := h4 (by simp [cellsOf, nums]; omega)
    refine ⟨ad, rfl, fun j u hj => hr j u ?_⟩
    have hj3 : j < 300 := by have := (List.getElem?_eq_some_iff.1 hj).1; omega
    rw [← hj]
    simp only [cellsOf, nums, List.getElem?_map]
    rw [List.getElem?_take, if_pos hj3]
  replace hS := Lib.hid hS
  replace hS3 := Lib.hid hS3
  clear hu8
  go_enter Try.func8, Try.ntmps8
  go_upto_region 1 with fail
  go_cut [0] (fun v0 wx => ∃ (B : List UInt8) (M : Nat), Hid (B.length = M) ∧ M ≤ 300 ∧ v0 = .slice A M cap ∧ Hid (Sl w 1 (.slice A M cap) M (cellsOf .u8 (nums B))) ∧ wx = w)
  case first =>
    by_cases h3 : 300 < bs.length
    · go_wp2_with fail
      go_meet
      exact ⟨bs.take 300, 300, Lib.hid (by rw [List.length_take]; omega), by omega, rfl, Lib.hid (hS3.out h3), rfl⟩
    · go_wp2_with fail
      go_meet
      exact ⟨bs, bs.length, Lib.hid rfl, by omega, rfl, hS, rfl⟩
  case rest =>
  obtain ⟨B, M, hM, hM3, rfl, hSl, hwc⟩ := hcut
  rw [hwc]
  clear hwc wc
  clear hS hS3
  have hcv : ∀ W, Chg [] w W → (convert 35 9 (.slice A M cap)).run Try.prog W = .ok (.string (bstr B)) W := fun W hC => by
    have := sl_string (P := Try.prog) (hSl.out.chg hC (by simp)) 35 5 9 Try.underlying35 Try.underlying5 Try.underlying9
    rwa [str_nums] at this
  replace hcv := Lib.hid hcv
  obtain ⟨kd, hkd⟩ : ∃ kd : Nat, kd = (if kind && decide (0 < M) then 0 else 1) := ⟨_, rfl⟩
  obtain ⟨ps, hps⟩ : ∃ ps : List Part, ps = (if B = [] then [] else [⟨false, B⟩]) := ⟨_, rfl⟩
  have hBM : B = [] ↔ M = 0 := by rw [← hM.out]; exact ⟨fun h => by rw [h]; rfl, List.eq_nil_of_length_eq_zero⟩
  have hpr := bytes_print (kd := kd) hps (by
    rw [hkd]
    by_cases h : (kind && decide (0 < M)) = true
    · rw [if_pos h]
      simp only [Bool.and_eq_true, decide_eq_true_eq] at h
      exact .inl ⟨rfl, fun e => by have := hBM.1 e; omega⟩
    · rw [if_neg h]; exact .inr rfl)
  have hco := bytes_cost (kd := kd) hps (by rw [hM.out]; exact hM3)
  obtain ⟨t, hpr⟩ := hpr
  have hkk : ((lB kd ps B).map kcmd).map ckey = (lB kd ps B).map ckeyP := by
    rw [List.map_map]
    exact List.map_congr_left fun c _ => ckey_kcmd c
  replace hM := Lib.hid hM
  replace hBM := Lib.hid hBM
  replace hkd := Lib.hid hkd
  replace hps := Lib.hid hps
  replace hkk := Lib.hid hkk
  replace hpr := Lib.hid hpr
  replace hco := Lib.hid hco
  by_cases hM0 : M = 0
  · subst hM0
    have hM0 : (0 : Nat) = 0 := rfl
    cases kind with
    | false =>
      obtain rfl : kd = 1 := by rw [hkd.out]; simp [hM0]
      obtain rfl : ps = ([] : List Part) := by rw [hps.out, if_pos (hBM.out.2 hM0)]
      go_upto_region 7 with fail
      have hD := blk_new w (.cells #[.int .i64 0, .int .i64 1, .slice none 0 0] 38)
      have hC7 : Chg [] w (w.alloc (.cells #[.int .i64 0, .int .i64 1, .slice none 0 0] 38)) := (Chg.refl [] w).alloc _
      have hPt : PartsAt (w.alloc (.cells #[.int .i64 0, .int .i64 1, .slice none 0 0] 38)) (.slice none 0 0) ([] : List Part) := Sl.nil _ _
      generalize (w.alloc (.cells #[.int .i64 0, .int .i64 1, .slice none 0 0] 38)) = W7 at hD hC7 hPt ⊢
      have hkk5 : ∃ k5, w.heap.size = k5 := ⟨_, rfl⟩
      have hcells : ∀ W, Chg [] W7 W → W.cell? ⟨w.heap.size, 0, none⟩ = some (.int .i64 0) ∧ W.cell? ⟨w.heap.size, 1, none⟩ = some (.int .i64 1) ∧ W.cell? ⟨w.heap.size, 2, none⟩ = some (.slice none 0 0) := fun W hC => by
        have h1 := hC.heap hD (by simp)
        refine ⟨?_, ?_, ?_⟩ <;> simp [World.cell?, h1]
      obtain ⟨d0, d1, d2⟩ := hcells W7 (Chg.refl _ _)
      have d0a : ∀ o, (W7.alloc o).cell? ⟨w.heap.size, 0, none⟩ = some (.int .i64 0) := fun o => (hcells _ ((Chg.refl [] W7).alloc o)).1
      have d1a : ∀ o, (W7.alloc o).cell? ⟨w.heap.size, 1, none⟩ = some (.int .i64 1) := fun o => (hcells _ ((Chg.refl [] W7).alloc o)).2.1
      have d2a : ∀ o, (W7.alloc o).cell? ⟨w.heap.size, 2, none⟩ = some (.slice none 0 0) := fun o => (hcells _ ((Chg.refl [] W7).alloc o)).2.2
      have d0b : ∀ o o', ((W7.alloc o).alloc o').cell? ⟨w.heap.size, 0, none⟩ = some (.int .i64 0) := fun o o' => (hcells _ (((Chg.refl [] W7).alloc o).alloc o')).1
      have d1b : ∀ o o', ((W7.alloc o).alloc o').cell? ⟨w.heap.size, 1, none⟩ = some (.int .i64 1) := fun o o' => (hcells _ (((Chg.refl [] W7).alloc o).alloc o')).2.1
      have d2b : ∀ o o', ((W7.alloc o).alloc o').cell? ⟨w.heap.size, 2, none⟩ = some (.slice none 0 0) := fun o o' => (hcells _ (((Chg.refl [] W7).alloc o).alloc o')).2.2
      have hcv7 := hcv.out W7 hC7
      have hcat1 : ¬ (9223372036854775807 < 1 + (bstr B).size) := by rw [bstr_size, hM.out]; omega
      have hone : (⟨#[49]⟩ : ByteArray) ++ bstr B = bstr (49 :: B) := by
        apply ByteArray.ext
        apply Array.ext'
        simp [bstr]
      have hK : k33.C ((((W7.alloc (.cells #[.bool true, .string ⟨#[120]⟩, .bool false, .string (bstr (49 :: B))] 41)).alloc (.cells #[.int .i64 0, .int .i64 1, .slice none 0 0, .int .i64 0, .int .i64 0, .slice (some ⟨W7.heap.size, 0, none⟩) 2 2, .int .i64 0, .int .i64 1, .slice none 0 0] 38)).alloc (.cells #[.int .i64 0, .int .i64 1, .slice none 0 0] 38)).alloc (.cells #[.int .i64 0, .slice (some ⟨W7.heap.size + 1, 0, none⟩) 3 3, .int .i64 0, .slice (some ⟨W7.heap.size + 1 + 1, 0, none⟩) 1 1] 33)) (some ⟨W7.heap.size + 1 + 1 + 1, 0, none⟩) 2 ((lB 1 ([] : List Part) B).map kcmd) := bytes_mem W7 1 none 0 ([] : List Part) B hPt
      replace hC7 := Lib.hid hC7
      replace hK := Lib.hid hK
      clear hD hPt hcells hkk5
      go_upto_region 8 with fail
      clear d0 d1 d2 d0a d1a d2a d0b d1b d2b hcv7 hcat1 hone
      have hC11 : Chg [] w ((((W7.alloc (.cells #[.bool true, .string ⟨#[120]⟩, .bool false, .string (bstr (49 :: B))] 41)).alloc (.cells #[.int .i64 0, .int .i64 1, .slice none 0 0, .int .i64 0, .int .i64 0, .slice (some ⟨W7.heap.size, 0, none⟩) 2 2, .int .i64 0, .int .i64 1, .slice none 0 0] 38)).alloc (.cells #[.int .i64 0, .int .i64 1, .slice none 0 0] 38)).alloc (.cells #[.int .i64 0, .slice (some ⟨W7.heap.size + 1, 0, none⟩) 3 3, .int .i64 0, .slice (some ⟨W7.heap.size + 1 + 1, 0, none⟩) 1 1] 33)) := (((hC7.out.alloc _).alloc _).alloc _).alloc _
      have hK2 := hK.out
      clear hK hC7
      generalize ((((W7.alloc (.cells #[.bool true, .string ⟨#[120]⟩, .bool false, .string (bstr (49 :: B))] 41)).alloc (.cells #[.int .i64 0, .int .i64 1, .slice none 0 0, .int .i64 0, .int .i64 0, .slice (some ⟨W7.heap.size, 0, none⟩) 2 2, .int .i64 0, .int .i64 1, .slice none 0 0] 38)).alloc (.cells #[.int .i64 0, .int .i64 1, .slice none 0 0] 38)).alloc (.cells #[.int .i64 0, .slice (some ⟨W7.heap.size + 1, 0, none⟩) 3 3, .int .i64 0, .slice (some ⟨W7.heap.size + 1 + 1, 0, none⟩) 1 1] 33)) = W11 at hK2 hC11 ⊢
      have hprint := print_any W11 (some ⟨W7.heap.size + 1 + 1 + 1, 0, none⟩) 2 2 ((lB 1 ([] : List Part) B).map kcmd) rfl hK2 (by rw [hkk.out]; exact hco.out)
      rw [hkk.out] at hprint
      unfold PrEnd at hprint
      replace hprint := Lib.hid hprint
      replace hC11 := Lib.hid hC11
      have hK1 := Lib.hid hK2
      clear hK2
      go_wp2_with fail
      refine (hprint.out).mono ?_
      rintro e w12 ⟨hC12, hcase⟩
      clear hprint
      rcases hcase with ⟨t', ht', hl', rfl⟩ | ⟨hn, -⟩
      rotate_left
      · rw [hpr.out] at hn; cases hn
      obtain ⟨cs', hcs, hkeys⟩ := print_parse ht' (by omega)
      replace hK1 := Lib.hid (Kd.C_below hK1.out hC12.below)
      replace hC11 := Lib.hid (hC11.out.trans hC12)
      have hpa := Lib.hid (parse_any w12 t' (by omega))
      replace hcs := Lib.hid hcs
      replace hkeys := Lib.hid hkeys
      clear hC12 ht' hl'
      go_wp2_with fail
      refine (hpa.out).mono ?_
      rintro e w13 h13
      obtain ⟨hC13, A3, n3, c3, xs3, rfl, hn3, hS3, hX3, -⟩ := parse_ok h13 hcs.out
      have hK3 := Lib.hid (kcmds hS3 hX3 hn3)
      have m3 := sl_max hS3
      subst hn3
      replace hK1 := Lib.hid (Kd.C_below hK1.out hC13.below)
      replace hC11 := Lib.hid (hC11.out.trans hC13)
      clear h13 hC13 hS3 hX3 hpa
      go_wp2_with fail
      refine (alive_any _).mono ?_
      rintro e w14 ⟨rfl, hC14⟩
      replace hK1 := Lib.hid (Kd.C_below hK1.out hC14.below)
      replace hK3 := Lib.hid (Kd.C_below hK3.out hC14.below)
      replace hC11 := Lib.hid (hC11.out.trans hC14)
      clear hC14
      have hdec : decide ((((lB 1 ([] : List Part) B).map kcmd).map ckey) = ((cs'.map kcmd).map ckey)) = true := by
        apply decide_eq_true
        rw [hkk.out, ← hkeys.out, List.map_map]
        exact (List.map_congr_left fun c _ => ckey_kcmd c).symm
      replace hdec := Lib.hid hdec
      go_wp2_with fail
      ((with_reducible refine (same_any _ _ _ 2 c3 ((lB 1 ([] : List Part) B).map kcmd) (cs'.map kcmd) 2 cs'.length rfl (by simp) hK1.out hK3.out (by omega) m3.1).mono ?_); skip)
      rintro e w15 ⟨rfl, hC15⟩
      rw [hdec.out]
      replace hC11 := Lib.hid (hC11.out.trans hC15)
      clear hC15 hK1 hK3
      go_wp2_with fail
      go_ret
      exact ⟨rfl, hC11.out.below⟩
    | true =>
      obtain rfl : kd = 1 := by rw [hkd.out]; simp [hM0]
      obtain rfl : ps = ([] : List Part) := by rw [hps.out, if_pos (hBM.out.2 hM0)]
      go_upto_region 7 with fail
      have hD := blk_new w (.cells #[.int .i64 0, .int .i64 1, .slice none 0 0] 38)
      have hC7 : Chg [] w (w.alloc (.cells #[.int .i64 0, .int .i64 1, .slice none 0 0] 38)) := (Chg.refl [] w).alloc _
      have hPt : PartsAt (w.alloc (.cells #[.int .i64 0, .int .i64 1, .slice none 0 0] 38)) (.slice none 0 0) ([] : List Part) := Sl.nil _ _
      generalize (w.alloc (.cells #[.int .i64 0, .int .i64 1, .slice none 0 0] 38)) = W7 at hD hC7 hPt ⊢
      have hkk5 : ∃ k5, w.heap.size = k5 := ⟨_, rfl⟩
      have hcells : ∀ W, Chg [] W7 W → W.cell? ⟨w.heap.size, 0, none⟩ = some (.int .i64 0) ∧ W.cell? ⟨w.heap.size, 1, none⟩ = some (.int .i64 1) ∧ W.cell? ⟨w.heap.size, 2, none⟩ = some (.slice none 0 0) := fun W hC => by
        have h1 := hC.heap hD (by simp)
        refine ⟨?_, ?_, ?_⟩ <;> simp [World.cell?, h1]
      obtain ⟨d0, d1, d2⟩ := hcells W7 (Chg.refl _ _)
      have d0a : ∀ o, (W7.alloc o).cell? ⟨w.heap.size, 0, none⟩ = some (.int .i64 0) := fun o => (hcells _ ((Chg.refl [] W7).alloc o)).1
      have d1a : ∀ o, (W7.alloc o).cell? ⟨w.heap.size, 1, none⟩ = some (.int .i64 1) := fun o => (hcells _ ((Chg.refl [] W7).alloc o)).2.1
      have d2a : ∀ o, (W7.alloc o).cell? ⟨w.heap.size, 2, none⟩ = some (.slice none 0 0) := fun o => (hcells _ ((Chg.refl [] W7).alloc o)).2.2
      have d0b : ∀ o o', ((W7.alloc o).alloc o').cell? ⟨w.heap.size, 0, none⟩ = some (.int .i64 0) := fun o o' => (hcells _ (((Chg.refl [] W7).alloc o).alloc o')).1
      have d1b : ∀ o o', ((W7.alloc o).alloc o').cell? ⟨w.heap.size, 1, none⟩ = some (.int .i64 1) := fun o o' => (hcells _ (((Chg.refl [] W7).alloc o).alloc o')).2.1
      have d2b : ∀ o o', ((W7.alloc o).alloc o').cell? ⟨w.heap.size, 2, none⟩ = some (.slice none 0 0) := fun o o' => (hcells _ (((Chg.refl [] W7).alloc o).alloc o')).2.2
      have hcv7 := hcv.out W7 hC7
      have hcat1 : ¬ (9223372036854775807 < 1 + (bstr B).size) := by rw [bstr_size, hM.out]; omega
      have hone : (⟨#[49]⟩ : ByteArray) ++ bstr B = bstr (49 :: B) := by
        apply ByteArray.ext
        apply Array.ext'
        simp [bstr]
      have hK : k33.C ((((W7.alloc (.cells #[.bool true, .string ⟨#[120]⟩, .bool false, .string (bstr (49 :: B))] 41)).alloc (.cells #[.int .i64 0, .int .i64 1, .slice none 0 0, .int .i64 0, .int .i64 0, .slice (some ⟨W7.heap.size, 0, none⟩) 2 2, .int .i64 0, .int .i64 1, .slice none 0 0] 38)).alloc (.cells #[.int .i64 0, .int .i64 1, .slice none 0 0] 38)).alloc (.cells #[.int .i64 0, .slice (some ⟨W7.heap.size + 1, 0, none⟩) 3 3, .int .i64 0, .slice (some ⟨W7.heap.size + 1 + 1, 0, none⟩) 1 1] 33)) (some ⟨W7.heap.size + 1 + 1 + 1, 0, none⟩) 2 ((lB 1 ([] : List Part) B).map kcmd) := bytes_mem W7 1 none 0 ([] : List Part) B hPt
      replace hC7 := Lib.hid hC7
      replace hK := Lib.hid hK
      clear hD hPt hcells hkk5
      go_upto_region 8 with fail
      clear d0 d1 d2 d0a d1a d2a d0b d1b d2b hcv7 hcat1 hone
      have hC11 : Chg [] w ((((W7.alloc (.cells #[.bool true, .string ⟨#[120]⟩, .bool false, .string (bstr (49 :: B))] 41)).alloc (.cells #[.int .i64 0, .int .i64 1, .slice none 0 0, .int .i64 0, .int .i64 0, .slice (some ⟨W7.heap.size, 0, none⟩) 2 2, .int .i64 0, .int .i64 1, .slice none 0 0] 38)).alloc (.cells #[.int .i64 0, .int .i64 1, .slice none 0 0] 38)).alloc (.cells #[.int .i64 0, .slice (some ⟨W7.heap.size + 1, 0, none⟩) 3 3, .int .i64 0, .slice (some ⟨W7.heap.size + 1 + 1, 0, none⟩) 1 1] 33)) := (((hC7.out.alloc _).alloc _).alloc _).alloc _
      have hK2 := hK.out
      clear hK hC7
      generalize ((((W7.alloc (.cells #[.bool true, .string ⟨#[120]⟩, .bool false, .string (bstr (49 :: B))] 41)).alloc (.cells #[.int .i64 0, .int .i64 1, .slice none 0 0, .int .i64 0, .int .i64 0, .slice (some ⟨W7.heap.size, 0, none⟩) 2 2, .int .i64 0, .int .i64 1, .slice none 0 0] 38)).alloc (.cells #[.int .i64 0, .int .i64 1, .slice none 0 0] 38)).alloc (.cells #[.int .i64 0, .slice (some ⟨W7.heap.size + 1, 0, none⟩) 3 3, .int .i64 0, .slice (some ⟨W7.heap.size + 1 + 1, 0, none⟩) 1 1] 33)) = W11 at hK2 hC11 ⊢
      have hprint := print_any W11 (some ⟨W7.heap.size + 1 + 1 + 1, 0, none⟩) 2 2 ((lB 1 ([] : List Part) B).map kcmd) rfl hK2 (by rw [hkk.out]; exact hco.out)
      rw [hkk.out] at hprint
      unfold PrEnd at hprint
      replace hprint := Lib.hid hprint
      replace hC11 := Lib.hid hC11
      have hK1 := Lib.hid hK2
      clear hK2
      go_wp2_with fail
      refine (hprint.out).mono ?_
      rintro e w12 ⟨hC12, hcase⟩
      clear hprint
      rcases hcase with ⟨t', ht', hl', rfl⟩ | ⟨hn, -⟩
      rotate_left
      · rw [hpr.out] at hn; cases hn
      obtain ⟨cs', hcs, hkeys⟩ := print_parse ht' (by omega)
      replace hK1 := Lib.hid (Kd.C_below hK1.out hC12.below)
      replace hC11 := Lib.hid (hC11.out.trans hC12)
      have hpa := Lib.hid (parse_any w12 t' (by omega))
      replace hcs := Lib.hid hcs
      replace hkeys := Lib.hid hkeys
      clear hC12 ht' hl'
      go_wp2_with fail
      refine (hpa.out).mono ?_
      rintro e w13 h13
      obtain ⟨hC13, A3, n3, c3, xs3, rfl, hn3, hS3, hX3, -⟩ := parse_ok h13 hcs.out
      have hK3 := Lib.hid (kcmds hS3 hX3 hn3)
      have m3 := sl_max hS3
      subst hn3
      replace hK1 := Lib.hid (Kd.C_below hK1.out hC13.below)
      replace hC11 := Lib.hid (hC11.out.trans hC13)
      clear h13 hC13 hS3 hX3 hpa
      go_wp2_with fail
      refine (alive_any _).mono ?_
      rintro e w14 ⟨rfl, hC14⟩
      replace hK1 := Lib.hid (Kd.C_below hK1.out hC14.below)
      replace hK3 := Lib.hid (Kd.C_below hK3.out hC14.below)
      replace hC11 := Lib.hid (hC11.out.trans hC14)
      clear hC14
      have hdec : decide ((((lB 1 ([] : List Part) B).map kcmd).map ckey) = ((cs'.map kcmd).map ckey)) = true := by
        apply decide_eq_true
        rw [hkk.out, ← hkeys.out, List.map_map]
        exact (List.map_congr_left fun c _ => ckey_kcmd c).symm
      replace hdec := Lib.hid hdec
      go_wp2_with fail
      ((with_reducible refine (same_any _ _ _ 2 c3 ((lB 1 ([] : List Part) B).map kcmd) (cs'.map kcmd) 2 cs'.length rfl (by simp) hK1.out hK3.out (by omega) m3.1).mono ?_); skip)
      rintro e w15 ⟨rfl, hC15⟩
      rw [hdec.out]
      replace hC11 := Lib.hid (hC11.out.trans hC15)
      clear hC15 hK1 hK3
      go_wp2_with fail
      go_ret
      exact ⟨rfl, hC11.out.below⟩
  · have hM1 : 0 < M := by omega
    have e1 : decide ((M : Int) > 0) = true := by simp; omega
    have e2 : decide (0 < M) = true := by simp; omega
    cases kind with
    | false =>
      obtain rfl : kd = 1 := by rw [hkd.out]; simp [hM1]
      obtain rfl : ps = [(⟨false, B⟩ : Part)] := by rw [hps.out, if_neg (fun e => hM0 (hBM.out.1 e))]
      have hcvA := hcv.out (w.alloc (.cells #[.int .i64 0, .int .i64 1, .slice none 0 0] 38)) ((Chg.refl [] w).alloc _)
      go_upto_region 7 with fail
      have hD := blk_alloc (blk_new w (.cells #[.int .i64 0, .int .i64 1, .slice (some ⟨w.heap.size + 1, 0, none⟩) 1 1] 38)) (.cells #[.bool false, .string (bstr B)] 41)
      have hC7 : Chg [] w ((w.alloc (.cells #[.int .i64 0, .int .i64 1, .slice (some ⟨w.heap.size + 1, 0, none⟩) 1 1] 38)).alloc (.cells #[.bool false, .string (bstr B)] 41)) := ((Chg.refl [] w).alloc _).alloc _
      have hPt : PartsAt ((w.alloc (.cells #[.int .i64 0, .int .i64 1, .slice (some ⟨w.heap.size + 1, 0, none⟩) 1 1] 38)).alloc (.cells #[.bool false, .string (bstr B)] 41)) (.slice (some ⟨w.heap.size + 1, 0, none⟩) 1 1) [(⟨false, B⟩ : Part)] := by
        have h1 := sl_wide_new (w.alloc (.cells #[.int .i64 0, .int .i64 1, .slice (some ⟨w.heap.size + 1, 0, none⟩) 1 1] 38)) [.bool false, .string (bstr B)] 41 2 rfl
        rw [show (w.alloc (.cells #[.int .i64 0, .int .i64 1, .slice (some ⟨w.heap.size + 1, 0, none⟩) 1 1] 38)).heap.size = w.heap.size + 1 from Array.size_push ..] at h1
        exact h1
      clear hcvA
      generalize ((w.alloc (.cells #[.int .i64 0, .int .i64 1, .slice (some ⟨w.heap.size + 1, 0, none⟩) 1 1] 38)).alloc (.cells #[.bool false, .string (bstr B)] 41)) = W7 at hD hC7 hPt ⊢
      have hkk5 : ∃ k5, w.heap.size = k5 := ⟨_, rfl⟩
      have hcells : ∀ W, Chg [] W7 W → W.cell? ⟨w.heap.size, 0, none⟩ = some (.int .i64 0) ∧ W.cell? ⟨w.heap.size, 1, none⟩ = some (.int .i64 1) ∧ W.cell? ⟨w.heap.size, 2, none⟩ = some (.slice (some ⟨w.heap.size + 1, 0, none⟩) 1 1) := fun W hC => by
        have h1 := hC.heap hD (by simp)
        refine ⟨?_, ?_, ?_⟩ <;> simp [World.cell?, h1]
      obtain ⟨d0, d1, d2⟩ := hcells W7 (Chg.refl _ _)
      have d0a : ∀ o, (W7.alloc o).cell? ⟨w.heap.size, 0, none⟩ = some (.int .i64 0) := fun o => (hcells _ ((Chg.refl [] W7).alloc o)).1
      have d1a : ∀ o, (W7.alloc o).cell? ⟨w.heap.size, 1, none⟩ = some (.int .i64 1) := fun o => (hcells _ ((Chg.refl [] W7).alloc o)).2.1
      have d2a : ∀ o, (W7.alloc o).cell? ⟨w.heap.size, 2, none⟩ = some (.slice (some ⟨w.heap.size + 1, 0, none⟩) 1 1) := fun o => (hcells _ ((Chg.refl [] W7).alloc o)).2.2
      have d0b : ∀ o o', ((W7.alloc o).alloc o').cell? ⟨w.heap.size, 0, none⟩ = some (.int .i64 0) := fun o o' => (hcells _ (((Chg.refl [] W7).alloc o).alloc o')).1
      have d1b : ∀ o o', ((W7.alloc o).alloc o').cell? ⟨w.heap.size, 1, none⟩ = some (.int .i64 1) := fun o o' => (hcells _ (((Chg.refl [] W7).alloc o).alloc o')).2.1
      have d2b : ∀ o o', ((W7.alloc o).alloc o').cell? ⟨w.heap.size, 2, none⟩ = some (.slice (some ⟨w.heap.size + 1, 0, none⟩) 1 1) := fun o o' => (hcells _ (((Chg.refl [] W7).alloc o).alloc o')).2.2
      have hcv7 := hcv.out W7 hC7
      have hcat1 : ¬ (9223372036854775807 < 1 + (bstr B).size) := by rw [bstr_size, hM.out]; omega
      have hone : (⟨#[49]⟩ : ByteArray) ++ bstr B = bstr (49 :: B) := by
        apply ByteArray.ext
        apply Array.ext'
        simp [bstr]
      have hK : k33.C ((((W7.alloc (.cells #[.bool true, .string ⟨#[120]⟩, .bool false, .string (bstr (49 :: B))] 41)).alloc (.cells #[.int .i64 0, .int .i64 1, .slice (some ⟨w.heap.size + 1, 0, none⟩) 1 1, .int .i64 0, .int .i64 0, .slice (some ⟨W7.heap.size, 0, none⟩) 2 2, .int .i64 0, .int .i64 1, .slice (some ⟨w.heap.size + 1, 0, none⟩) 1 1] 38)).alloc (.cells #[.int .i64 0, .int .i64 1, .slice (some ⟨w.heap.size + 1, 0, none⟩) 1 1] 38)).alloc (.cells #[.int .i64 0, .slice (some ⟨W7.heap.size + 1, 0, none⟩) 3 3, .int .i64 0, .slice (some ⟨W7.heap.size + 1 + 1, 0, none⟩) 1 1] 33)) (some ⟨W7.heap.size + 1 + 1 + 1, 0, none⟩) 2 ((lB 1 [(⟨false, B⟩ : Part)] B).map kcmd) := bytes_mem W7 1 (some ⟨w.heap.size + 1, 0, none⟩) 1 [(⟨false, B⟩ : Part)] B hPt
      replace hC7 := Lib.hid hC7
      replace hK := Lib.hid hK
      clear hD hPt hcells hkk5
      go_upto_region 8 with fail
      clear d0 d1 d2 d0a d1a d2a d0b d1b d2b hcv7 hcat1 hone
      have hC11 : Chg [] w ((((W7.alloc (.cells #[.bool true, .string ⟨#[120]⟩, .bool false, .string (bstr (49 :: B))] 41)).alloc (.cells #[.int .i64 0, .int .i64 1, .slice (some ⟨w.heap.size + 1, 0, none⟩) 1 1, .int .i64 0, .int .i64 0, .slice (some ⟨W7.heap.size, 0, none⟩) 2 2, .int .i64 0, .int .i64 1, .slice (some ⟨w.heap.size + 1, 0, none⟩) 1 1] 38)).alloc (.cells #[.int .i64 0, .int .i64 1, .slice (some ⟨w.heap.size + 1, 0, none⟩) 1 1] 38)).alloc (.cells #[.int .i64 0, .slice (some ⟨W7.heap.size + 1, 0, none⟩) 3 3, .int .i64 0, .slice (some ⟨W7.heap.size + 1 + 1, 0, none⟩) 1 1] 33)) := (((hC7.out.alloc _).alloc _).alloc _).alloc _
      have hK2 := hK.out
      clear hK hC7
      generalize ((((W7.alloc (.cells #[.bool true, .string ⟨#[120]⟩, .bool false, .string (bstr (49 :: B))] 41)).alloc (.cells #[.int .i64 0, .int .i64 1, .slice (some ⟨w.heap.size + 1, 0, none⟩) 1 1, .int .i64 0, .int .i64 0, .slice (some ⟨W7.heap.size, 0, none⟩) 2 2, .int .i64 0, .int .i64 1, .slice (some ⟨w.heap.size + 1, 0, none⟩) 1 1] 38)).alloc (.cells #[.int .i64 0, .int .i64 1, .slice (some ⟨w.heap.size + 1, 0, none⟩) 1 1] 38)).alloc (.cells #[.int .i64 0, .slice (some ⟨W7.heap.size + 1, 0, none⟩) 3 3, .int .i64 0, .slice (some ⟨W7.heap.size + 1 + 1, 0, none⟩) 1 1] 33)) = W11 at hK2 hC11 ⊢
      have hprint := print_any W11 (some ⟨W7.heap.size + 1 + 1 + 1, 0, none⟩) 2 2 ((lB 1 [(⟨false, B⟩ : Part)] B).map kcmd) rfl hK2 (by rw [hkk.out]; exact hco.out)
      rw [hkk.out] at hprint
      unfold PrEnd at hprint
      replace hprint := Lib.hid hprint
      replace hC11 := Lib.hid hC11
      have hK1 := Lib.hid hK2
      clear hK2
      go_wp2_with fail
      refine (hprint.out).mono ?_
      rintro e w12 ⟨hC12, hcase⟩
      clear hprint
      rcases hcase with ⟨t', ht', hl', rfl⟩ | ⟨hn, -⟩
      rotate_left
      · rw [hpr.out] at hn; cases hn
      obtain ⟨cs', hcs, hkeys⟩ := print_parse ht' (by omega)
      replace hK1 := Lib.hid (Kd.C_below hK1.out hC12.below)
      replace hC11 := Lib.hid (hC11.out.trans hC12)
      have hpa := Lib.hid (parse_any w12 t' (by omega))
      replace hcs := Lib.hid hcs
      replace hkeys := Lib.hid hkeys
      clear hC12 ht' hl'
      go_wp2_with fail
      refine (hpa.out).mono ?_
      rintro e w13 h13
      obtain ⟨hC13, A3, n3, c3, xs3, rfl, hn3, hS3, hX3, -⟩ := parse_ok h13 hcs.out
      have hK3 := Lib.hid (kcmds hS3 hX3 hn3)
      have m3 := sl_max hS3
      subst hn3
      replace hK1 := Lib.hid (Kd.C_below hK1.out hC13.below)
      replace hC11 := Lib.hid (hC11.out.trans hC13)
      clear h13 hC13 hS3 hX3 hpa
      go_wp2_with fail
      refine (alive_any _).mono ?_
      rintro e w14 ⟨rfl, hC14⟩
      replace hK1 := Lib.hid (Kd.C_below hK1.out hC14.below)
      replace hK3 := Lib.hid (Kd.C_below hK3.out hC14.below)
      replace hC11 := Lib.hid (hC11.out.trans hC14)
      clear hC14
      have hdec : decide ((((lB 1 [(⟨false, B⟩ : Part)] B).map kcmd).map ckey) = ((cs'.map kcmd).map ckey)) = true := by
        apply decide_eq_true
        rw [hkk.out, ← hkeys.out, List.map_map]
        exact (List.map_congr_left fun c _ => ckey_kcmd c).symm
      replace hdec := Lib.hid hdec
      go_wp2_with fail
      ((with_reducible refine (same_any _ _ _ 2 c3 ((lB 1 [(⟨false, B⟩ : Part)] B).map kcmd) (cs'.map kcmd) 2 cs'.length rfl (by simp) hK1.out hK3.out (by omega) m3.1).mono ?_); skip)
      rintro e w15 ⟨rfl, hC15⟩
      rw [hdec.out]
      replace hC11 := Lib.hid (hC11.out.trans hC15)
      clear hC15 hK1 hK3
      go_wp2_with fail
      go_ret
      exact ⟨rfl, hC11.out.below⟩
    | true =>
      obtain rfl : kd = 0 := by rw [hkd.out]; simp [hM1]
      obtain rfl : ps = [(⟨false, B⟩ : Part)] := by rw [hps.out, if_neg (fun e => hM0 (hBM.out.1 e))]
      have hcvA := hcv.out (w.alloc (.cells #[.int .i64 0, .int .i64 0, .slice none 0 0] 38)) ((Chg.refl [] w).alloc _)
      go_upto_region 7 with fail
      have hD := blk_alloc (blk_new w (.cells #[.int .i64 0, .int .i64 0, .slice (some ⟨w.heap.size + 1, 0, none⟩) 1 1] 38)) (.cells #[.bool false, .string (bstr B)] 41)
      have hC7 : Chg [] w ((w.alloc (.cells #[.int .i64 0, .int .i64 0, .slice (some ⟨w.heap.size + 1, 0, none⟩) 1 1] 38)).alloc (.cells #[.bool false, .string (bstr B)] 41)) := ((Chg.refl [] w).alloc _).alloc _
      have hPt : PartsAt ((w.alloc (.cells #[.int .i64 0, .int .i64 0, .slice (some ⟨w.heap.size + 1, 0, none⟩) 1 1] 38)).alloc (.cells #[.bool false, .string (bstr B)] 41)) (.slice (some ⟨w.heap.size + 1, 0, none⟩) 1 1) [(⟨false, B⟩ : Part)] := by
        have h1 := sl_wide_new (w.alloc (.cells #[.int .i64 0, .int .i64 0, .slice (some ⟨w.heap.size + 1, 0, none⟩) 1 1] 38)) [.bool false, .string (bstr B)] 41 2 rfl
        rw [show (w.alloc (.cells #[.int .i64 0, .int .i64 0, .slice (some ⟨w.heap.size + 1, 0, none⟩) 1 1] 38)).heap.size = w.heap.size + 1 from Array.size_push ..] at h1
        exact h1
      clear hcvA
      generalize ((w.alloc (.cells #[.int .i64 0, .int .i64 0, .slice (some ⟨w.heap.size + 1, 0, none⟩) 1 1] 38)).alloc (.cells #[.bool false, .string (bstr B)] 41)) = W7 at hD hC7 hPt ⊢
      have hkk5 : ∃ k5, w.heap.size = k5 := ⟨_, rfl⟩
      have hcells : ∀ W, Chg [] W7 W → W.cell? ⟨w.heap.size, 0, none⟩ = some (.int .i64 0) ∧ W.cell? ⟨w.heap.size, 1, none⟩ = some (.int .i64 0) ∧ W.cell? ⟨w.heap.size, 2, none⟩ = some (.slice (some ⟨w.heap.size + 1, 0, none⟩) 1 1) := fun W hC => by
        have h1 := hC.heap hD (by simp)
        refine ⟨?_, ?_, ?_⟩ <;> simp [World.cell?, h1]
      obtain ⟨d0, d1, d2⟩ := hcells W7 (Chg.refl _ _)
      have d0a : ∀ o, (W7.alloc o).cell? ⟨w.heap.size, 0, none⟩ = some (.int .i64 0) := fun o => (hcells _ ((Chg.refl [] W7).alloc o)).1
      have d1a : ∀ o, (W7.alloc o).cell? ⟨w.heap.size, 1, none⟩ = some (.int .i64 0) := fun o => (hcells _ ((Chg.refl [] W7).alloc o)).2.1
      have d2a : ∀ o, (W7.alloc o).cell? ⟨w.heap.size, 2, none⟩ = some (.slice (some ⟨w.heap.size + 1, 0, none⟩) 1 1) := fun o => (hcells _ ((Chg.refl [] W7).alloc o)).2.2
      have d0b : ∀ o o', ((W7.alloc o).alloc o').cell? ⟨w.heap.size, 0, none⟩ = some (.int .i64 0) := fun o o' => (hcells _ (((Chg.refl [] W7).alloc o).alloc o')).1
      have d1b : ∀ o o', ((W7.alloc o).alloc o').cell? ⟨w.heap.size, 1, none⟩ = some (.int .i64 0) := fun o o' => (hcells _ (((Chg.refl [] W7).alloc o).alloc o')).2.1
      have d2b : ∀ o o', ((W7.alloc o).alloc o').cell? ⟨w.heap.size, 2, none⟩ = some (.slice (some ⟨w.heap.size + 1, 0, none⟩) 1 1) := fun o o' => (hcells _ (((Chg.refl [] W7).alloc o).alloc o')).2.2
      have hcv7 := hcv.out W7 hC7
      have hcat1 : ¬ (9223372036854775807 < 1 + (bstr B).size) := by rw [bstr_size, hM.out]; omega
      have hone : (⟨#[49]⟩ : ByteArray) ++ bstr B = bstr (49 :: B) := by
        apply ByteArray.ext
        apply Array.ext'
        simp [bstr]
      have hK : k33.C ((((W7.alloc (.cells #[.bool true, .string ⟨#[120]⟩, .bool false, .string (bstr (49 :: B))] 41)).alloc (.cells #[.int .i64 0, .int .i64 0, .slice (some ⟨w.heap.size + 1, 0, none⟩) 1 1, .int .i64 0, .int .i64 0, .slice (some ⟨W7.heap.size, 0, none⟩) 2 2, .int .i64 0, .int .i64 0, .slice (some ⟨w.heap.size + 1, 0, none⟩) 1 1] 38)).alloc (.cells #[.int .i64 0, .int .i64 0, .slice (some ⟨w.heap.size + 1, 0, none⟩) 1 1] 38)).alloc (.cells #[.int .i64 0, .slice (some ⟨W7.heap.size + 1, 0, none⟩) 3 3, .int .i64 0, .slice (some ⟨W7.heap.size + 1 + 1, 0, none⟩) 1 1] 33)) (some ⟨W7.heap.size + 1 + 1 + 1, 0, none⟩) 2 ((lB 0 [(⟨false, B⟩ : Part)] B).map kcmd) := bytes_mem W7 0 (some ⟨w.heap.size + 1, 0, none⟩) 1 [(⟨false, B⟩ : Part)] B hPt
      replace hC7 := Lib.hid hC7
      replace hK := Lib.hid hK
      clear hD hPt hcells hkk5
      go_upto_region 8 with fail
      clear d0 d1 d2 d0a d1a d2a d0b d1b d2b hcv7 hcat1 hone
      have hC11 : Chg [] w ((((W7.alloc (.cells #[.bool true, .string ⟨#[120]⟩, .bool false, .string (bstr (49 :: B))] 41)).alloc (.cells #[.int .i64 0, .int .i64 0, .slice (some ⟨w.heap.size + 1, 0, none⟩) 1 1, .int .i64 0, .int .i64 0, .slice (some ⟨W7.heap.size, 0, none⟩) 2 2, .int .i64 0, .int .i64 0, .slice (some ⟨w.heap.size + 1, 0, none⟩) 1 1] 38)).alloc (.cells #[.int .i64 0, .int .i64 0, .slice (some ⟨w.heap.size + 1, 0, none⟩) 1 1] 38)).alloc (.cells #[.int .i64 0, .slice (some ⟨W7.heap.size + 1, 0, none⟩) 3 3, .int .i64 0, .slice (some ⟨W7.heap.size + 1 + 1, 0, none⟩) 1 1] 33)) := (((hC7.out.alloc _).alloc _).alloc _).alloc _
      have hK2 := hK.out
      clear hK hC7
      generalize ((((W7.alloc (.cells #[.bool true, .string ⟨#[120]⟩, .bool false, .string (bstr (49 :: B))] 41)).alloc (.cells #[.int .i64 0, .int .i64 0, .slice (some ⟨w.heap.size + 1, 0, none⟩) 1 1, .int .i64 0, .int .i64 0, .slice (some ⟨W7.heap.size, 0, none⟩) 2 2, .int .i64 0, .int .i64 0, .slice (some ⟨w.heap.size + 1, 0, none⟩) 1 1] 38)).alloc (.cells #[.int .i64 0, .int .i64 0, .slice (some ⟨w.heap.size + 1, 0, none⟩) 1 1] 38)).alloc (.cells #[.int .i64 0, .slice (some ⟨W7.heap.size + 1, 0, none⟩) 3 3, .int .i64 0, .slice (some ⟨W7.heap.size + 1 + 1, 0, none⟩) 1 1] 33)) = W11 at hK2 hC11 ⊢
      have hprint := print_any W11 (some ⟨W7.heap.size + 1 + 1 + 1, 0, none⟩) 2 2 ((lB 0 [(⟨false, B⟩ : Part)] B).map kcmd) rfl hK2 (by rw [hkk.out]; exact hco.out)
      rw [hkk.out] at hprint
      unfold PrEnd at hprint
      replace hprint := Lib.hid hprint
      replace hC11 := Lib.hid hC11
      have hK1 := Lib.hid hK2
      clear hK2
      go_wp2_with fail
      refine (hprint.out).mono ?_
      rintro e w12 ⟨hC12, hcase⟩
      clear hprint
      rcases hcase with ⟨t', ht', hl', rfl⟩ | ⟨hn, -⟩
      rotate_left
      · rw [hpr.out] at hn; cases hn
      obtain ⟨cs', hcs, hkeys⟩ := print_parse ht' (by omega)
      replace hK1 := Lib.hid (Kd.C_below hK1.out hC12.below)
      replace hC11 := Lib.hid (hC11.out.trans hC12)
      have hpa := Lib.hid (parse_any w12 t' (by omega))
      replace hcs := Lib.hid hcs
      replace hkeys := Lib.hid hkeys
      clear hC12 ht' hl'
      go_wp2_with fail
      refine (hpa.out).mono ?_
      rintro e w13 h13
      obtain ⟨hC13, A3, n3, c3, xs3, rfl, hn3, hS3, hX3, -⟩ := parse_ok h13 hcs.out
      have hK3 := Lib.hid (kcmds hS3 hX3 hn3)
      have m3 := sl_max hS3
      subst hn3
      replace hK1 := Lib.hid (Kd.C_below hK1.out hC13.below)
      replace hC11 := Lib.hid (hC11.out.trans hC13)
      clear h13 hC13 hS3 hX3 hpa
      go_wp2_with fail
      refine (alive_any _).mono ?_
      rintro e w14 ⟨rfl, hC14⟩
      replace hK1 := Lib.hid (Kd.C_below hK1.out hC14.below)
      replace hK3 := Lib.hid (Kd.C_below hK3.out hC14.below)
      replace hC11 := Lib.hid (hC11.out.trans hC14)
      clear hC14
      have hdec : decide ((((lB 0 [(⟨false, B⟩ : Part)] B).map kcmd).map ckey) = ((cs'.map kcmd).map ckey)) = true := by
        apply decide_eq_true
        rw [hkk.out, ← hkeys.out, List.map_map]
        exact (List.map_congr_left fun c _ => ckey_kcmd c).symm
      replace hdec := Lib.hid hdec
      go_wp2_with fail
      ((with_reducible refine (same_any _ _ _ 2 c3 ((lB 0 [(⟨false, B⟩ : Part)] B).map kcmd) (cs'.map kcmd) 2 cs'.length rfl (by simp) hK1.out hK3.out (by omega) m3.1).mono ?_); skip)
      rintro e w15 ⟨rfl, hC15⟩
      rw [hdec.out]
      replace hC11 := Lib.hid (hC11.out.trans hC15)
      clear hC15 hK1 hK3
      go_wp2_with fail
      go_ret
      exact ⟨rfl, hC11.out.below⟩
theorem tclBytes_row (v0 : Value) (d0 : Dt) (v1 : Value) (d1 : Dt) (w : World) (h0 : Reads w (.sl [.int .u8]) v0 d0) (h1 : Reads w .bool v1 d1) :
    Calls Try.prog 8 #[v0, v1] w fun e w' => e = .returned (.bool true) ∧ Below w.heap.size w w' := by
  obtain ⟨A, c, bs, rfl, hS, hl, hc⟩ := u8s_of_reads h0
  cases h1
  exact tclBytes_walk A bs c _ w hS hl (by unfold maxLen at hc; omega)
end Go.Proofs.Yteodhnblbehenaa
