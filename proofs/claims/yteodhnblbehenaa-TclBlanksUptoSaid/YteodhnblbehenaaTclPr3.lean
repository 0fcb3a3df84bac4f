/- Contract of package tcl's printer's word. Conditions: as it states. -/
import Derived.Test.YteodhnblbehenaaTclPr2
import Derived.Test.YteodhnblbehenaaTclKd
set_option linter.unusedVariables false
set_option linter.unusedSimpArgs false
namespace Go.Proofs.Yteodhnblbehenaa
open Go.RowKit Tcl PTclParses YteodhnblbehenaaW.PrintWords
def prevK (ps : List PK) (i : Nat) : Option Bool := if i = 0 then none else (ps[i - 1]?).map (·.1)
/-- How far the parts are printed. -/
def Run (kd : Int) (ps : List PK) (i : Nat) (X : List UInt8) : Prop := partsK kd none ps = (partsK kd (prevK ps i) (ps.drop i)).map (X ++ ·)
theorem run_init (kd : Int) (ps : List PK) : Run kd ps 0 [] := by
  unfold Run prevK
  cases h : partsK kd none ps <;> simp [h]
theorem run_none {kd : Int} {ps : List PK} {i : Nat} {X : List UInt8} {p : PK} (h : Run kd ps i X) (hp : ps[i]? = some p) (hn : partK kd (prevK ps i) p = none) : partsK kd none ps = none := by
  obtain ⟨hl, he⟩ := List.getElem?_eq_some_iff.1 hp
  rw [h, List.drop_eq_getElem_cons hl, he, partsK, hn]; rfl
theorem run_some {kd : Int} {ps : List PK} {i : Nat} {X x : List UInt8} {p : PK} (h : Run kd ps i X) (hp : ps[i]? = some p) (hn : partK kd (prevK ps i) p = some x) : Run kd ps (i + 1) (X ++ x) := by
  obtain ⟨hl, he⟩ := List.getElem?_eq_some_iff.1 hp
  unfold Run at h ⊢
  rw [h, List.drop_eq_getElem_cons hl, he, partsK, hn]
  have e : prevK ps (i + 1) = some p.1 := by unfold prevK; rw [if_neg (by omega), Nat.add_sub_cancel, hp]; rfl
  rw [e]
  cases partsK kd (some p.1) (ps.drop (i + 1)) <;> simp
theorem run_end {kd : Int} {ps : List PK} {X : List UInt8} (h : Run kd ps ps.length X) : partsK kd none ps = some X := by
  rw [h, List.drop_length, partsK]; simp
def openK (kd : Int) : List UInt8 := if kd = 0 then [] else if kd = 1 then [34] else [123]
def closeK (kd : Int) : List UInt8 := if kd = 0 then [] else if kd = 1 then [34] else [125]
theorem partK_var (kd : Int) (prev : Option Bool) (u : List UInt8) : partK kd prev (true, u) = if (decide (kd = 2) || u.isEmpty || decide (64 < u.length) || !u.all nameB) = true then none else some (36 :: u) := by
  unfold partK
  rw [if_pos rfl]
  have : (kd = 2 ∨ u = [] ∨ 64 < u.length ∨ u.all nameB = false) ↔ ((decide (kd = 2) || u.isEmpty || decide (64 < u.length) || !u.all nameB) = true) := by
    simp only [Bool.or_eq_true, decide_eq_true_eq, List.isEmpty_iff, Bool.not_eq_true']
    constructor
    · rintro (h | h | h | h)
      · exact .inl (.inl (.inl h))
      · exact .inl (.inl (.inr h))
      · exact .inl (.inr h)
      · exact .inr h
    · rintro (((h | h) | h) | h)
      · exact .inl h
      · exact .inr (.inl h)
      · exact .inr (.inr (.inl h))
      · exact .inr (.inr (.inr h))
  by_cases h : kd = 2 ∨ u = [] ∨ 64 < u.length ∨ u.all nameB = false
  · rw [if_pos h, if_pos (this.1 h)]
  · rw [if_neg h, if_neg (fun x => h (this.2 x))]
theorem partK_text (kd : Int) (prev : Option Bool) (u : List UInt8) : partK kd prev (false, u) = if (u.isEmpty || (prev == some false) || (decide (kd = 2) && !wholeB u)) = true then none else some (if kd = 2 then u else textB (decide (kd = 0)) prev.isSome u) := by
  unfold partK
  rw [if_neg (by simp)]
  have : (u = [] ∨ prev = some false ∨ (kd = 2 ∧ wholeB u = false)) ↔ ((u.isEmpty || (prev == some false) || (decide (kd = 2) && !wholeB u)) = true) := by
    simp only [Bool.or_eq_true, Bool.and_eq_true, decide_eq_true_eq, List.isEmpty_iff, Bool.not_eq_true', beq_iff_eq]
    constructor
    · rintro (h | h | h)
      · exact .inl (.inl h)
      · exact .inl (.inr h)
      · exact .inr h
    · rintro ((h | h) | h)
      · exact .inl h
      · exact .inr (.inl h)
      · exact .inr (.inr h)
  by_cases h : u = [] ∨ prev = some false ∨ (kd = 2 ∧ wholeB u = false)
  · rw [if_pos h, if_pos (this.1 h)]
  · rw [if_neg h, if_neg (fun x => h (this.2 x))]
    by_cases k : kd = 2
    · rw [if_pos k, if_pos k]
    · rw [if_neg k, if_neg k]
theorem textB_len (bare : Bool) : ∀ (u : List UInt8) (b : Bool), (textB bare b u).length ≤ 4 * u.length := by
  intro u
  induction u with
  | nil => intro b; exact Nat.le_refl _
  | cons c u ih =>
    intro b
    rw [textB, List.length_append]
    have h1 := ih false
    have h2 : (escB bare b c).length ≤ 4 := by unfold escB; split <;> simp [octB]
    simp only [List.length_cons]; omega
theorem open_len (kd : Int) : (openK kd).length ≤ 1 := by
  unfold openK
  split
  · simp
  · split <;> simp
theorem close_len (kd : Int) : (closeK kd).length ≤ 1 := by
  unfold closeK
  split
  · simp
  · split <;> simp
theorem wordK_ok {kd : Int} {ps : List PK} (h : ¬ (kd < 0 ∨ 2 < kd ∨ (kd = 0 ∧ ps = []) ∨ (kd = 2 ∧ 1 < ps.length))) : wordK (kd, ps) = (partsK kd none ps).map (fun x => openK kd ++ x ++ closeK kd) := by
  unfold wordK
  rw [if_neg h]
  have h1 : ¬ kd < 0 := fun x => h (.inl x)
  have h2 : ¬ 2 < kd := fun x => h (.inr (.inl x))
  cases partsK kd none ps with
  | none => rfl
  | some x =>
    simp only [Option.map_some]
    unfold openK closeK
    by_cases k0 : kd = 0
    · simp [k0]
    · by_cases k1 : kd = 1
      · simp [k1]
      · simp [k0, k1]
def costK (ps : List PK) : Nat := (ps.map fun p => 4 * p.2.length + 1).sum
theorem cost_get {ps : List PK} {i : Nat} {p : PK} (h : ps[i]? = some p) : costK (ps.take i) + (4 * p.2.length + 1) = costK (ps.take (i + 1)) := by
  unfold costK
  rw [List.take_add_one, h]; simp
theorem cost_len (ps : List PK) : ps.length ≤ costK ps := by
  induction ps with
  | nil => exact Nat.zero_le _
  | cons p ps ih => simp [costK] at ih ⊢; omega
theorem cost_take (ps : List PK) (i : Nat) : costK (ps.take i) ≤ costK ps := by
  unfold costK
  conv => rhs; rw [← List.take_append_drop i ps]
  rw [List.map_append, List.sum_append]; omega
theorem two_blk (w : World) (o1 o2 : Obj) : ((w.alloc o1).alloc o2).heap[w.heap.size + 1]? = some o2 := by
  have := blk_new (w.alloc o1) o2
  rw [show (w.alloc o1).heap.size = w.heap.size + 1 from Array.size_push ..] at this
  exact this
/-- What `word` tells. -/
def WpEnd (w0 w : World) (g : Nat) (bs : List UInt8) (W : WK) (e : Ending) (w' : World) : Prop :=
  ∃ b, e = .returned (.bool b) ∧ Chg [] w0 w' ∧ Kept g w w' ∧ (wordK W = none → b = false) ∧ ∀ x, wordK W = some x → b = true ∧ Bd w0 w' g (bs ++ x)
set_option maxRecDepth 100000 in
set_option maxHeartbeats 8000000 in
theorem wordp_any (w0 w : World) (g : Nat) (bs : List UInt8) (at_ kd : Int) (A : Option Addr) (n c' : Nat) (ps : List S41) (hn : n = ps.length) (hk : k41.C w0 A n ps) (h : Bd w0 w g bs) (hlen : bs.length + costK (ps.map pkey) + 3 ≤ 16000000) :
    Calls Try.prog 29 #[.pointer (some ⟨g, 0, none⟩), .agg #[.int .i64 at_, .int .i64 kd, .slice A n c']] w (WpEnd w0 w g bs (kd, ps.map pkey)) := by
  unfold WpEnd
  obtain ⟨PS, hPS⟩ : ∃ PS, ps.map pkey = PS := ⟨_, rfl⟩
  have hPg : ∀ i (h : i < n), PS[i]? = (ps[i]?).map pkey := fun i h => by rw [← hPS, List.getElem?_map]
  have hPl : PS.length = n := by rw [← hPS, List.length_map]; exact hn.symm
  rw [hPS] at hlen ⊢
  replace hPg := Lib.hid hPg
  have hlt := (h.C).size
  obtain ⟨k, hk1⟩ : ∃ k, w.heap.size = k := ⟨_, rfl⟩
  have hA := (Chg.refl [] w).alloc (.cells #[.int .i64 at_, .int .i64 kd, .slice A n c'] 38)
  have hW := blk_new w (.cells #[.int .i64 at_, .int .i64 kd, .slice A n c'] 38)
  have hB1 := h.chg hA
  have hK1 := Kept.of (g := g) hA (by simp)
  rw [hk1] at hW
  have hnk : g < k := by obtain ⟨p, v, _, h⟩ := h; have := lt_heap h.H; omega
  have hcnt : n ≤ 16000000 := by
    have := cost_len PS
    omega
  replace hPl := Lib.hid hPl
  clear hPS
  replace hk := Lib.hid hk
  replace hn := Lib.hid hn
  replace hlen := Lib.hid hlen
  replace hB1 := Lib.hid hB1
  replace hK1 := Lib.hid hK1
  replace hW := Lib.hid hW
  clear hA h hlt
  obtain ⟨bad, hbad⟩ : ∃ bad, (decide (kd < 0) || decide (2 < kd) || (decide (kd = 0) && decide (n = 0)) || (decide (kd = 2) && decide (1 < n))) = bad := ⟨_, rfl⟩
  replace hbad := Lib.hid hbad
  go_enter Try.func29, Try.ntmps29
  go_upto_region 1 with fail
  generalize w.alloc (.cells #[.int .i64 at_, .int .i64 kd, .slice A n c'] 38) = w1 at hB1 hK1 hW ⊢
  obtain ⟨d0, d1, d2⟩ : w1.cell? ⟨k, 0, none⟩ = some (.int .i64 at_) ∧ w1.cell? ⟨k, 1, none⟩ = some (.int .i64 kd) ∧ w1.cell? ⟨k, 2, none⟩ = some (.slice A n c') := by have := hW.out; refine ⟨?_, ?_, ?_⟩ <;> simp [World.cell?, this]
  go_cut [37] (fun v37 wx => v37 = .bool bad ∧ wx = w1)
  case first =>
    clear hB1 hK1 hW hk hlen
    by_cases h1 : kd < 0
    · have e1 : decide (kd < 0) = true := decide_eq_true h1
      obtain rfl : bad = true := by rw [← hbad.out, e1]; rfl
      clear hbad
      go_wp2_with fail
      go_meet
      exact ⟨rfl, rfl⟩
    · have e1 : decide (kd < 0) = false := decide_eq_false h1
      by_cases h2 : 2 < kd
      · have e2 : decide (kd > 2) = true := decide_eq_true h2
        obtain rfl : bad = true := by rw [← hbad.out, e1, decide_eq_true h2]; rfl
        clear hbad
        go_wp2_with fail
        go_meet
        exact ⟨rfl, rfl⟩
      · have e2 : decide (kd > 2) = false := decide_eq_false h2
        obtain rfl | rfl | rfl : kd = 0 ∨ kd = 1 ∨ kd = 2 := by omega
        · by_cases hn0 : n = 0
          · subst hn0
            obtain rfl : bad = true := by rw [← hbad.out]; rfl
            clear hbad
            go_wp2_with fail
            go_meet
            exact ⟨rfl, rfl⟩
          · have en : ((n : Int) == 0) = false := by rw [beq_eq_false_iff_ne]; omega
            obtain rfl : bad = false := by rw [← hbad.out]; simp [hn0]
            clear hbad
            go_wp2_with fail
            go_meet
            exact ⟨rfl, rfl⟩
        · obtain rfl : bad = false := by rw [← hbad.out]; simp
          clear hbad
          go_wp2_with fail
          go_meet
          exact ⟨rfl, rfl⟩
        · by_cases hn1 : 1 < n
          · have en : decide ((n : Int) > 1) = true := by simp; omega
            obtain rfl : bad = true := by rw [← hbad.out]; simp [hn1]
            clear hbad
            go_wp2_with fail
            go_meet
            exact ⟨rfl, rfl⟩
          · have en : decide ((n : Int) > 1) = false := by simp; omega
            obtain rfl : bad = false := by rw [← hbad.out]; simp [hn1]
            clear hbad
            go_wp2_with fail
            go_meet
            exact ⟨rfl, rfl⟩
  case rest =>
  obtain ⟨rfl, hwc⟩ := hcut
  rw [hwc]
  clear hwc wc
  cases bad with
  | true =>
    have hwn : wordK (kd, PS) = none := by
      unfold wordK
      rw [if_pos]
      have := hbad.out
      simp only [Bool.or_eq_true, Bool.and_eq_true, decide_eq_true_eq] at this
      have hn' := hn.out
      rcases this with ((h | h) | h) | h
      · exact .inl h
      · exact .inr (.inl h)
      · refine .inr (.inr (.inl ⟨h.1, ?_⟩))
        show PS = []
        exact List.eq_nil_of_length_eq_zero (by have := hPl.out; omega)
      · refine .inr (.inr (.inr ⟨h.1, ?_⟩))
        show 1 < PS.length
        have := hPl.out
        omega
    have hCw := hB1.out.C
    replace hwn := Lib.hid hwn
    replace hCw := Lib.hid hCw
    clear hbad hB1 hW hlen hk
    go_wp2_with fail
    go_ret
    exact ⟨false, rfl, hCw.out, hK1.out, fun _ => rfl, fun x hx => by rw [hwn.out] at hx; cases hx⟩
  | false =>
    have hk012 : kd = 0 ∨ kd = 1 ∨ kd = 2 := by
      have := hbad.out
      simp only [Bool.or_eq_false_iff, decide_eq_false_iff_not] at this
      omega
    have hwk : wordK (kd, PS) = (partsK kd none PS).map (fun x => openK kd ++ x ++ closeK kd) := wordK_ok (by
      have := hbad.out
      simp only [Bool.or_eq_false_iff, decide_eq_false_iff_not, Bool.and_eq_false_imp, decide_eq_true_eq] at this
      obtain ⟨⟨⟨q1, q2⟩, q3⟩, q4⟩ := this
      have hn' := hn.out
      rintro (h | h | h | h)
      · exact q1 h
      · exact q2 h
      · have h3 := q3 h.1
        have : PS.length = 0 := by rw [h.2]; rfl
        have := hPl.out
        omega
      · have h3 := q4 h.1
        have := h.2
        have := hPl.out
        omega)
    have hn1 : Hid (kd = 2 → n ≤ 1) := Lib.hid (fun h => by
      have := hbad.out
      simp only [Bool.or_eq_false_iff, decide_eq_false_iff_not, Bool.and_eq_false_imp, decide_eq_true_eq] at this
      have := this.2 h
      omega)
    replace hwk := Lib.hid hwk
    replace hk012 := Lib.hid hk012
    clear hbad
    go_upto_region 3 with fail
    go_cut [5] (fun v5 wx => ∃ k5, v5 = .pointer (some ⟨k5, 0, none⟩) ∧ Hid (wx.heap[k5]? = some (.cells #[.string (bstr (openK kd)), .string (bstr (closeK kd))] 84 (0, 0))) ∧ g < k5 ∧ Hid (Chg [] w1 wx))
    case first =>
      clear hB1 hK1 hlen hk hwk hn1
      have hgw : g < w1.heap.size := by have := lt_heap hW.out; omega
      have d1a : ∀ o : Obj, (w1.alloc o).cell? ⟨k, 1, none⟩ = some (.int .i64 kd) := fun o => ((Chg.refl [] w1).alloc o).cell d1 (by simp)
      rcases hk012.out with rfl | rfl | rfl
      · go_wp2_with fail
        go_meet
        refine ⟨_, rfl, Lib.hid ?_, by first | omega | (simp; omega), Lib.hid (((Chg.refl [] w1).alloc _).alloc _)⟩
        exact two_blk _ _ _
      · go_wp2_with fail
        go_meet
        refine ⟨_, rfl, Lib.hid ?_, by first | omega | (simp; omega), Lib.hid (((Chg.refl [] w1).alloc _).alloc _)⟩
        exact two_blk _ _ _
      · go_wp2_with fail
        go_meet
        refine ⟨_, rfl, Lib.hid ?_, by first | omega | (simp; omega), Lib.hid (((Chg.refl [] w1).alloc _).alloc _)⟩
        exact two_blk _ _ _
    case rest =>
    obtain ⟨k5, rfl, hF, hgk5, hC5⟩ := hcut
    have hB2 := Lib.hid (hB1.out.chg hC5.out)
    have hK2 := Lib.hid (hK1.out.trans (Kept.of (g := g) hC5.out (by simp)))
    have hW2 := Lib.hid (hC5.out.heap hW.out (by simp))
    clear hB1 hK1 hW hC5 d0 d1 d2
    go_upto_region 4 with fail
    generalize hOb : bstr (openK kd) = OB at hF
    replace hOb := Lib.hid hOb
    go_cut [] (fun wx => Hid (Bd w0 wx g (bs ++ openK kd)) ∧ Hid (Kept g w wx) ∧ Hid (wx.heap[k5]? = some (.cells #[.string OB, .string (bstr (closeK kd))] 84 (0, 0))) ∧ Hid (wx.heap[k]? = some (.cells #[.int .i64 at_, .int .i64 kd, .slice A n c'] 38 (0, 0))))
    case first =>
      have hws := Lib.hid (fun W (h : Bd w0 W g bs) => writeString_bd w0 W g bs (openK kd) h (by have h1 := open_len kd; have h2 := hlen.out; omega))
      rw [hOb.out] at hws
      have hB3 := Lib.hid (hB2.out.chg (Chg.refl [] wc).drew)
      have hK3 := Lib.hid (hK2.out.trans (Kept.of (g := g) (Chg.refl [] wc).drew (by simp)))
      have hF3 := Lib.hid ((Chg.refl [] wc).drew.heap hF.out (by simp))
      have hW3 := Lib.hid ((Chg.refl [] wc).drew.heap hW2.out (by simp))
      have f0 : wc.drew.cell? ⟨k5, 0, none⟩ = some (.string OB) := by have := hF3.out; simp [World.cell?, this]
      clear hB2 hK2 hF hW2 hwk hk
      refine wp_region_any (by kernel_rfl) ?_
      (try (change wpAny _ _ _ _ _ _ _ (World.drew _)))
      refine wpAny_take (i := 0) (v := ?_) rfl (by kernel_rfl) (by kernel_rfl) (by kernel_rfl) (fun _ _ _ h => h) (Or.inl ⟨by kernel_rfl, ?_⟩) ?_
      rotate_left
      · (intro w; go_simp; try with_reducible rfl)
      change wpAny _ _ _ _ _ _ (Act.put _ (some 46) _) _
      (try simp only [Act.put, List.setIfInBounds_toArray, List.set_cons_zero, List.set_cons_succ])
      (generalize World.drew wc = w6 at hB3 hK3 hF3 hW3 f0 ⊢)
      refine wpAny_take (i := 1) (v := ?_) rfl (by kernel_rfl) (by kernel_rfl) (by kernel_rfl) (fun _ _ _ h => h) (Or.inl ⟨by kernel_rfl, ?_⟩) ?_
      rotate_left
      · (intro w; go_simp; try with_reducible rfl)
      change wpAny _ _ _ _ _ _ (Act.put _ (some 47) _) _
      (try simp only [Act.put, List.setIfInBounds_toArray, List.set_cons_zero, List.set_cons_succ])
      refine wpAny_take (i := 2) (v := ?_) rfl (by kernel_rfl) (by kernel_rfl) (by kernel_rfl) (fun _ _ _ h => h) (Or.inl ⟨by kernel_rfl, ?_⟩) ?_
      rotate_left
      · (intro w; go_simp; try with_reducible rfl)
      change wpAny _ _ _ _ _ _ (Act.put _ (some 48) _) _
      (try simp only [Act.put, List.setIfInBounds_toArray, List.set_cons_zero, List.set_cons_succ])
      refine wpAny_ready (rs := [3]) (by kernel_rfl) (by simp) ?_
      refine AllReady.cons rfl (fun K hK => ?_) ?_
      · go_simp
        (try (refine hK _ _ ?_; clear hK K))
        (try simp only [Act.put, List.setIfInBounds_toArray, List.set_cons_zero, List.set_cons_succ])
        refine wpAny_ready (rs := [4]) (by kernel_rfl) (by simp) ?_
        refine AllReady.cons rfl (fun K hK => ?_) ?_
        · go_simp
          (try (refine hK _ _ ?_; clear hK K))
          (try simp only [Act.put, List.setIfInBounds_toArray, List.set_cons_zero, List.set_cons_succ])
          refine wpAny_ready (rs := [5]) (by kernel_rfl) (by simp) ?_
          refine AllReady.cons rfl (fun K hK => ?_) ?_
          · go_simp
            go_wp2_with (first
                | (refine (hws.out _ hB3.out).mono ?_; rintro e w8 ⟨⟨n9, rfl⟩, hB8, hK8⟩))
            (try (refine hK _ _ ?_; clear hK K))
            (try simp only [Act.put, List.setIfInBounds_toArray, List.set_cons_zero, List.set_cons_succ])
            refine wpAny_done (by kernel_rfl) ?_ _
            (try simp only [Act.put, List.setIfInBounds_toArray, List.set_cons_zero, List.set_cons_succ])
            have hF8 := Lib.hid (hK8.2 _ _ hF3.out (by omega) (by intro cs f h; cases h))
            have hW8 := Lib.hid (hK8.2 _ _ hW3.out (by omega) (by intro cs f h; cases h))
            replace hK8 := Lib.hid (hK3.out.trans hK8)
            replace hB8 := Lib.hid hB8
            clear f0 hF3 hW3 hB3 hK3 hws
            go_wp2_with fail
            go_meet
            exact ⟨hB8, hK8, hF8, hW8⟩
          exact AllReady.nil
        exact AllReady.nil
      exact AllReady.nil
    case rest =>
    clear hB2 hK2 hF hW2
    obtain ⟨hB8, hK8, hF8, hW8⟩ := hcut
    generalize wc = w8 at hB8 hK8 hF8 hW8 ⊢
    have d2 : w8.cell? ⟨k, 2, none⟩ = some (.slice A n c') := by have := hW8.out; simp [World.cell?, this]
    go_upto_block 0 with (fail)
    clear d2
    go_wp2
    go_loopg [55] n (fun gk v55 wr => ∃ (i : Nat) (X : List UInt8), v55 = .int .i64 i ∧ i ≤ n ∧ gk = n - i ∧ X.length ≤ costK (PS.take i) ∧ Hid (Run kd PS i X) ∧ Hid (Bd w0 wr g ((bs ++ openK kd) ++ X)) ∧ Hid (Kept g w wr) ∧ Hid (wr.heap[k5]? = some (.cells #[.string OB, .string (bstr (closeK kd))] 84 (0, 0))) ∧ Hid (wr.heap[k]? = some (.cells #[.int .i64 at_, .int .i64 kd, .slice A n c'] 38 (0, 0))))
    case atStart => exact ⟨0, [], rfl, by omega, by omega, by simp, Lib.hid (run_init _ _), Lib.hid (by rw [List.append_nil]; exact hB8.out), hK8, hF8, hW8⟩
    case round =>
      obtain ⟨i, X, rfl, hi, rfl, hX, hRun, hB, hK, hF, hW⟩ := hrel
      clear hB8 hK8 hF8 hW8
      by_cases hlt : i < n
      · have hil : i < ps.length := by have := hn.out; omega
        have hpi : ps[i]? = some ps[i] := List.getElem?_eq_getElem hil
        obtain ⟨ad, rfl, q1, q2⟩ := at_T41 (Kd.C_below hk.out hB.out.C.below) (i : Int) (by omega) (by omega)
        have er : rd_T41 ps (i : Int) = ps[i] := by unfold rd_T41; simp [List.getD, hil]
        rw [er] at q1 q2
        clear er
        simp only [Int.toNat_natCast] at q1 q2
        have hPi : Hid (PS[i]? = some (pkey ps[i])) := Lib.hid (by rw [hPg.out i hlt, hpi]; rfl)
        generalize ps[i] = p at q1 q2 hpi hPi
        obtain ⟨vr, st⟩ := p
        simp only at q1 q2
        replace hpi := Lib.hid hpi
        have hB7 := Lib.hid (hB.out.chg ((Chg.refl [] wr).alloc (.cells #[.bool vr, .string st] 41)))
        have hK7 := Lib.hid (hK.out.trans (Kept.of (g := g) ((Chg.refl [] wr).alloc (.cells #[.bool vr, .string st] 41)) (by simp)))
        have hF7 := Lib.hid (((Chg.refl [] wr).alloc (.cells #[.bool vr, .string st] 41)).heap hF.out (by simp))
        have hW7 := Lib.hid (((Chg.refl [] wr).alloc (.cells #[.bool vr, .string st] 41)).heap hW.out (by simp))
        have hP7 := Lib.hid (blk_new wr (.cells #[.bool vr, .string st] 41))
        obtain ⟨k7, hk7⟩ : ∃ k7, wr.heap.size = k7 := ⟨_, rfl⟩
        rw [hk7] at hP7
        have hgk7 : g < k7 := by have := lt_heap hF.out; omega
        clear hB hK hF hW
        go_upto_region 9 with fail
        generalize wr.alloc (.cells #[.bool vr, .string st] 41) = w7 at hB7 hK7 hF7 hW7 hP7 ⊢
        clear hk7 q1 q2
        have hP0 : ∀ W : World, Chg [] w7 W → W.cell? ⟨k7, 0, none⟩ = some (.bool vr) ∧ W.cell? ⟨k7, 1, none⟩ = some (.string st) ∧ W.cell? ⟨k, 1, none⟩ = some (.int .i64 kd) ∧ W.cell? ⟨k, 2, none⟩ = some (.slice (some ad) n c') := fun W hC => by
          have h1 := hC.heap hP7.out (by simp)
          have h2 := hC.heap hW7.out (by simp)
          refine ⟨?_, ?_, ?_, ?_⟩ <;> simp [World.cell?, h1, h2]
        obtain ⟨p0, p1, p2, p3⟩ := hP0 w7 (Chg.refl _ _)
        replace hP0 := Lib.hid hP0
        obtain ⟨u, hu⟩ : ∃ u, st.data.toList = u := ⟨_, rfl⟩
        have hst : st = bstr u := by rw [← hu]; rfl
        have hul : u.length = st.size := by rw [hst]; rfl
        have hpk : pkey ⟨vr, st⟩ = (vr, u) := by rw [← hu]; rfl
        rw [hpk] at hPi
        have hcg := cost_get hPi.out
        have hct := cost_take PS (i + 1)
        simp only at hcg
        have hl9 := hlen.out
        have hus : u.length ≤ 4000000 := by omega
        have hte : st.toList = u := by rw [ByteArray.toList_eq]; exact hu
        have hXl : ((bs ++ openK kd) ++ X).length + 4 * u.length + 5 ≤ 16000010 := by
          have := open_len kd
          rw [List.length_append, List.length_append]; omega
        have hrel : ∀ (x : List UInt8) (wx : World), partK kd (prevK PS i) (vr, u) = some x → x.length ≤ 4 * u.length + 1 → Bd w0 wx g (((bs ++ openK kd) ++ X) ++ x) → Kept g w wx → Kept g w7 wx →
            ∃ (i' : Nat) (X' : List UInt8), ((i : Int) + 1) = (i' : Int) ∧ i' ≤ n ∧ n - (i + 1) = n - i' ∧ X'.length ≤ costK (PS.take i') ∧ Hid (Run kd PS i' X') ∧ Hid (Bd w0 wx g ((bs ++ openK kd) ++ X')) ∧ Hid (Kept g w wx) ∧ Hid (wx.heap[k5]? = some (.cells #[.string OB, .string (bstr (closeK kd))] 84 (0, 0))) ∧ Hid (wx.heap[k]? = some (.cells #[.int .i64 at_, .int .i64 kd, .slice (some ad) n c'] 38 (0, 0))) := fun x wx hpa hxl hBx hKx hK7x => by
          refine ⟨i + 1, X ++ x, by omega, by omega, rfl, by rw [List.length_append]; omega, Lib.hid (run_some hRun.out hPi.out hpa), Lib.hid (by rw [← List.append_assoc]; exact hBx), Lib.hid hKx, Lib.hid (hK7x.2 _ _ hF7.out (by omega) (by intro cs f h; cases h)), Lib.hid (hK7x.2 _ _ hW7.out (by omega) (by intro cs f h; cases h))⟩
        have hbadr : ∀ wx, Chg [] w7 wx → partK kd (prevK PS i) (vr, u) = none → Chg [] w0 wx ∧ Kept g w wx ∧ wordK (kd, PS) = none := fun wx hC hpa => ⟨hB7.out.C.trans hC, hK7.out.trans (Kept.of (g := g) hC (by simp)), by rw [hwk.out, run_none hRun.out hPi.out hpa]; rfl⟩
        replace hrel := Lib.hid hrel
        replace hbadr := Lib.hid hbadr
        replace hst := Lib.hid hst
        replace hpk := Lib.hid hpk
        replace hu := Lib.hid hu
        have hul' : u.length ≤ st.size ∧ st.size ≤ u.length := by omega
        replace hul := Lib.hid hul
        replace hte := Lib.hid hte
        replace hcg := Lib.hid hcg
        clear hl9 hct
        obtain ⟨bad1, hbad1⟩ : ∃ bad1, (vr && (decide (kd = 2) || u.isEmpty || decide (64 < u.length) || !u.all nameB)) = bad1 := ⟨_, rfl⟩
        replace hbad1 := Lib.hid hbad1
        go_cut [69] (fun v69 wx => v69 = .bool bad1 ∧ Hid (Chg [] w7 wx))
        case first =>
          clear hrel hbadr hB7 hK7 hF7 hRun hwk
          cases vr with
          | false =>
            obtain rfl : bad1 = false := by rw [← hbad1.out]; rfl
            go_wp2_with fail
            go_meet
            exact ⟨rfl, Lib.hid (Chg.refl _ _)⟩
          | true =>
            by_cases h2 : kd = 2
            · subst h2
              obtain rfl : bad1 = true := by rw [← hbad1.out]; rfl
              clear hbad1
              go_wp2_with fail
              go_meet
              exact ⟨rfl, Lib.hid (Chg.refl _ _)⟩
            · have e2 : (kd == 2) = false := by rw [beq_eq_false_iff_ne]; exact h2
              by_cases he : u = []
              · have e3 : st.toList.isEmpty = true := by rw [hte.out, he]; rfl
                have e4 : st.toList = [] := by rw [hte.out, he]
                obtain rfl : bad1 = true := by rw [← hbad1.out, he]; simp
                clear hbad1
                go_wp2_with fail
                go_meet
                exact ⟨rfl, Lib.hid (Chg.refl _ _)⟩
              · have e3 : st.toList.isEmpty = false := by rw [hte.out]; simpa using he
                have e4 : ¬ st.toList = [] := by rw [hte.out]; exact he
                by_cases h64 : 64 < u.length
                · have e5 : decide ((st.size : Int) > 64) = true := by simp; omega
                  obtain rfl : bad1 = true := by rw [← hbad1.out, decide_eq_true h64]; simp
                  clear hbad1
                  go_wp2_with fail
                  go_meet
                  exact ⟨rfl, Lib.hid (Chg.refl _ _)⟩
                · have e5 : decide ((st.size : Int) > 64) = false := by simp; omega
                  have hot := other_any st (by omega)
                  rw [hu.out] at hot
                  have hb : bad1 = !u.all nameB := by rw [← hbad1.out, decide_eq_false h64, decide_eq_false h2]; simp [he]
                  rw [← hb] at hot
                  replace hot := Lib.hid hot
                  clear hbad1 hb
                  go_wp2_with fail
                  refine (hot.out _).mono ?_
                  rintro e w9 ⟨⟨v, rfl, hv⟩, hC9⟩
                  clear hot
                  go_wp2_with fail
                  go_meet
                  exact ⟨rfl, Lib.hid hC9⟩
        case rest =>
        obtain ⟨rfl, hC⟩ := hcut
        clear p0 p1 p2 p3
        obtain ⟨p0, p1, p2, p3⟩ := hP0.out wc hC.out
        cases bad1 with
        | true =>
          have hv : vr = true := by
            have := hbad1.out
            simp only [Bool.and_eq_true] at this
            exact this.1
          have hpn : partK kd (prevK PS i) (vr, u) = none := by
            rw [hv, partK_var, if_pos]
            have := hbad1.out
            simp only [Bool.and_eq_true] at this
            exact this.2
          have hfin := Lib.hid (hbadr.out wc hC.out hpn)
          clear hrel hbadr hpn
          replace hv := Lib.hid hv
          go_wp2_with fail
          (try rw [Exit.noGoto_ret])
          go_ret
          exact ⟨false, rfl, hfin.out.1, hfin.out.2.1, fun _ => rfl, fun x hx => by rw [hfin.out.2.2] at hx; cases hx⟩
        | false =>
          cases vr with
          | true =>
            have hpa : partK kd (prevK PS i) (true, u) = some (36 :: u) := by
              rw [partK_var, if_neg]
              have := hbad1.out
              simp only [Bool.true_and] at this
              rw [this]; decide
            have hrel2 := Lib.hid (fun wx => hrel.out (36 :: u) wx hpa (by simp only [List.length_cons]; omega))
            have hdol : (⟨#[36]⟩ : ByteArray) ++ st = bstr (36 :: u) := by
              rw [hst.out]
              apply ByteArray.ext
              apply Array.ext'
              simp [bstr]
            have hws := Lib.hid (fun W (h : Bd w0 W g ((bs ++ openK kd) ++ X)) => hdol ▸ writeString_bd w0 W g ((bs ++ openK kd) ++ X) (36 :: u) h (by simp only [List.length_cons]; omega))
            have hcat : ¬ (9223372036854775807 < (⟨#[36]⟩ : ByteArray).size + st.size) := by show ¬ (_ < 1 + _); omega
            have hcat2 : ¬ (9223372036854775807 < 1 + st.size) := by omega
            clear hrel hpa hbadr hdol
            go_upto_region 12 with fail
            obtain ⟨r0, r1, r2, r3⟩ := hP0.out wc.drew hC.out.drew
            have hB9 := Lib.hid (hB7.out.chg hC.out.drew)
            have hKg := Lib.hid (Kept.of (g := g) hC.out.drew (by simp))
            clear p0 p1 p2 p3 hP0 hC
            refine wp_region_any (by kernel_rfl) ?_
            (try (change wpAny _ _ _ _ _ _ _ (World.drew _)))
            refine wpAny_take (i := 0) (v := ?_) rfl (by kernel_rfl) (by kernel_rfl) (by kernel_rfl) (fun _ _ _ h => h) (Or.inl ⟨by kernel_rfl, ?_⟩) ?_
            rotate_left
            · (intro w; go_simp; try with_reducible rfl)
            change wpAny _ _ _ _ _ _ (Act.put _ (some 97) _) _
            (try simp only [Act.put, List.setIfInBounds_toArray, List.set_cons_zero, List.set_cons_succ])
            (generalize World.drew wc = w6 at hB9 hKg r0 r1 r2 r3 ⊢)
            refine wpAny_take (i := 1) (v := ?_) rfl (by kernel_rfl) (by kernel_rfl) (by kernel_rfl) (fun _ _ _ h => h) (Or.inl ⟨by kernel_rfl, ?_⟩) ?_
            rotate_left
            · (intro w; go_simp; try with_reducible rfl)
            change wpAny _ _ _ _ _ _ (Act.put _ (some 98) _) _
            (try simp only [Act.put, List.setIfInBounds_toArray, List.set_cons_zero, List.set_cons_succ])
            refine wpAny_take (i := 2) (v := ?_) rfl (by kernel_rfl) (by kernel_rfl) (by kernel_rfl) (fun _ _ _ h => h) (Or.inl ⟨by kernel_rfl, ?_⟩) ?_
            rotate_left
            · (intro w; go_simp; try with_reducible rfl)
            change wpAny _ _ _ _ _ _ (Act.put _ (some 99) _) _
            (try simp only [Act.put, List.setIfInBounds_toArray, List.set_cons_zero, List.set_cons_succ])
            refine wpAny_take (i := 3) (v := ?_) rfl (by kernel_rfl) (by kernel_rfl) (by kernel_rfl) (fun _ _ _ h => h) (Or.inl ⟨by kernel_rfl, ?_⟩) ?_
            rotate_left
            · (intro w; go_simp; try with_reducible rfl)
            change wpAny _ _ _ _ _ _ (Act.put _ (some 100) _) _
            (try simp only [Act.put, List.setIfInBounds_toArray, List.set_cons_zero, List.set_cons_succ])
            refine wpAny_ready (rs := [4]) (by kernel_rfl) (by simp) ?_
            refine AllReady.cons rfl (fun K hK => ?_) ?_
            · go_simp
              (try (refine hK _ _ ?_; clear hK K))
              (try simp only [Act.put, List.setIfInBounds_toArray, List.set_cons_zero, List.set_cons_succ])
              refine wpAny_take (i := 5) (v := ?_) rfl (by kernel_rfl) (by kernel_rfl) (by kernel_rfl) (fun _ _ _ h => h) (Or.inl ⟨by kernel_rfl, ?_⟩) ?_
              rotate_left
              · (intro w; go_simp; try with_reducible rfl)
              change wpAny _ _ _ _ _ _ (Act.put _ (some 102) _) _
              (try simp only [Act.put, List.setIfInBounds_toArray, List.set_cons_zero, List.set_cons_succ])
              refine wpAny_ready (rs := [6]) (by kernel_rfl) (by simp) ?_
              refine AllReady.cons rfl (fun K hK => ?_) ?_
              · go_simp
                go_wp2_with (first
                    | (refine (hws.out _ hB9.out).mono ?_; rintro e w8 ⟨⟨n9, rfl⟩, hB9', hK9⟩))
                (try (refine hK _ _ ?_; clear hK K))
                (try simp only [Act.put, List.setIfInBounds_toArray, List.set_cons_zero, List.set_cons_succ])
                refine wpAny_done (by kernel_rfl) ?_ _
                (try simp only [Act.put, List.setIfInBounds_toArray, List.set_cons_zero, List.set_cons_succ])
                have hfin := Lib.hid (hrel2.out _ hB9' ((hK7.out.trans hKg.out).trans hK9) (hKg.out.trans hK9))
                clear hB9' hK9 hB9 hKg hws r0 r1 r2 r3
                go_wp2_with fail
                go_roundg (n - (i + 1))
                case measure => omega
                case rel =>
                  obtain ⟨i', X', h1, h2⟩ := hfin.out
                  exact ⟨i', X', by rw [← h1], h2⟩
              exact AllReady.nil
            exact AllReady.nil
          | false =>
            clear hbad1
            have hprev : (i = 0 ∧ prevK PS i = none) ∨ (∃ pv : Bool, 0 < i ∧ prevK PS i = some pv ∧ ∃ (q : S41), ps[i - 1]? = some q ∧ q.f0 = pv) := by
              by_cases hi0 : i = 0
              · exact .inl ⟨hi0, by unfold prevK; rw [if_pos hi0]⟩
              · have hl1 : i - 1 < ps.length := by omega
                refine .inr ⟨ps[i - 1].f0, by omega, ?_, ps[i - 1], List.getElem?_eq_getElem hl1, rfl⟩
                unfold prevK
                rw [if_neg hi0, hPg.out (i - 1) (by omega), List.getElem?_eq_getElem hl1]; rfl
            obtain ⟨bad2, hbad2⟩ : ∃ bad2, (u.isEmpty || (prevK PS i == some false) || (decide (kd = 2) && !wholeB u)) = bad2 := ⟨_, rfl⟩
            replace hbad2 := Lib.hid hbad2
            replace hprev := Lib.hid hprev
            have hkw := Lib.hid (Kd.C_below hk.out (hB7.out.C.trans hC.out).below)
            go_upto_region 13 with fail
            go_cut [104] (fun v104 wx => v104 = .bool bad2 ∧ Hid (Chg [] wc wx))
            case first =>
              clear hrel hbadr hB7 hK7 hF7 hRun hwk hP0 hC
              by_cases he : u = []
              · have e3 : st.toList.isEmpty = true := by rw [hte.out, he]; rfl
                have e4 : st.toList = [] := by rw [hte.out, he]
                obtain rfl : bad2 = true := by rw [← hbad2.out, he]; simp
                clear hbad2
                go_wp2_with fail
                go_meet
                exact ⟨rfl, Lib.hid (Chg.refl _ _)⟩
              · have e3 : st.toList.isEmpty = false := by rw [hte.out]; simpa using he
                have e4 : ¬ st.toList = [] := by rw [hte.out]; exact he
                have heu : u.isEmpty = false := by simpa using he
                rcases hprev.out with ⟨hi0, hpv⟩ | ⟨pv, hi0, hpv, q, hq, hqv⟩
                · have e5 : decide ((i : Int) > 0) = false := by simp; omega
                  have e5n : decide (0 < i) = false := by simp; omega
                  have hEARLY : (u.isEmpty || (prevK PS i == some false)) = false := by rw [heu, hpv]; rfl
                  replace hpv := Lib.hid hpv
                  replace hi0 := Lib.hid hi0
                  by_cases h2 : kd = 2
                  · subst h2
                    have hwo := Lib.hid (fun w => whole_any u (by omega) w)
                    have hb : bad2 = !wholeB u := by rw [← hbad2.out, hEARLY]; simp
                    clear hbad2
                    rw [← hst.out] at hwo
                    cases hwv : wholeB u with
                    | false =>
                      rw [hwv] at hwo hb
                      subst hb
                      go_wp2_with fail
                      refine (hwo.out _).mono ?_
                      rintro e w9 ⟨rfl, hC9⟩
                      clear hwo
                      go_wp2_with fail
                      go_meet
                      exact ⟨rfl, Lib.hid hC9⟩
                    | true =>
                      rw [hwv] at hwo hb
                      subst hb
                      go_wp2_with fail
                      refine (hwo.out _).mono ?_
                      rintro e w9 ⟨rfl, hC9⟩
                      clear hwo
                      go_wp2_with fail
                      go_meet
                      exact ⟨rfl, Lib.hid hC9⟩
                  · have e2 : (kd == 2) = false := by rw [beq_eq_false_iff_ne]; exact h2
                    have hb : bad2 = false := by rw [← hbad2.out, hEARLY, decide_eq_false h2]; rfl
                    subst hb
                    clear hbad2
                    go_wp2_with fail
                    go_meet
                    exact ⟨rfl, Lib.hid (Chg.refl _ _)⟩
                · have e5 : decide ((i : Int) > 0) = true := by simp; omega
                  have e5n : decide (0 < i) = true := by simp; omega
                  have hl1 : i - 1 < ps.length := (List.getElem?_eq_some_iff.1 hq).1
                  obtain ⟨ad2, had, y0, -⟩ := at_T41 hkw.out ((i - 1 : Nat) : Int) (by omega) (by omega)
                  obtain rfl : ad = ad2 := by simpa using had
                  have er : rd_T41 ps ((i - 1 : Nat) : Int) = q := by
                    obtain ⟨h1, h2⟩ := List.getElem?_eq_some_iff.1 hq
                    unfold rd_T41; simp [List.getD, hq]
                  rw [er, hqv] at y0
                  simp only [Int.toNat_natCast] at y0
                  clear er had
                  have ei : (i : Int) - 1 = ((i - 1 : Nat) : Int) := by omega
                  obtain ⟨i1, hi1⟩ : ∃ i1, i - 1 = i1 := ⟨_, rfl⟩
                  rw [hi1] at y0 ei hl1
                  have hb1 : i1 < n := by omega
                  have hw1 : IntKind.i64.wrap ((i : Int) - 1) = (i1 : Int) := by rw [← ei]; exact IntWalk.i64_in _ (by omega)
                  have hEARLY0 : (u.isEmpty || (prevK PS i == some false)) = (!pv) := by rw [heu, hpv]; cases pv <;> rfl
                  replace hpv := Lib.hid hpv
                  replace hi1 := Lib.hid hi1
                  replace hqv := Lib.hid hqv
                  replace hq := Lib.hid hq
                  cases pv with
                  | false =>
                    obtain rfl : bad2 = true := by rw [← hbad2.out, hEARLY0]; rfl
                    clear hbad2 hEARLY0
                    go_wp2_with fail
                    go_meet
                    exact ⟨rfl, Lib.hid (Chg.refl _ _)⟩
                  | true =>
                    have hEARLY := hEARLY0
                    clear hEARLY0
                    by_cases h2 : kd = 2
                    · subst h2
                      have hwo := Lib.hid (fun w => whole_any u (by omega) w)
                      have hb : bad2 = !wholeB u := by rw [← hbad2.out, hEARLY]; simp
                      clear hbad2
                      rw [← hst.out] at hwo
                      cases hwv : wholeB u with
                      | false =>
                        rw [hwv] at hwo hb
                        subst hb
                        go_wp2_with fail
                        refine (hwo.out _).mono ?_
                        rintro e w9 ⟨rfl, hC9⟩
                        clear hwo
                        go_wp2_with fail
                        go_meet
                        exact ⟨rfl, Lib.hid hC9⟩
                      | true =>
                        rw [hwv] at hwo hb
                        subst hb
                        go_wp2_with fail
                        refine (hwo.out _).mono ?_
                        rintro e w9 ⟨rfl, hC9⟩
                        clear hwo
                        go_wp2_with fail
                        go_meet
                        exact ⟨rfl, Lib.hid hC9⟩
                    · have e2 : (kd == 2) = false := by rw [beq_eq_false_iff_ne]; exact h2
                      have hb : bad2 = false := by rw [← hbad2.out, hEARLY, decide_eq_false h2]; rfl
                      subst hb
                      clear hbad2
                      go_wp2_with fail
                      go_meet
                      exact ⟨rfl, Lib.hid (Chg.refl _ _)⟩
            case rest =>
            obtain ⟨rfl, hC2⟩ := hcut
            replace hC := Lib.hid (hC.out.trans hC2.out)
            clear p0 p1 p2 p3 hC2 hkw
            obtain ⟨p0, p1, p2, p3⟩ := hP0.out wc hC.out
            cases bad2 with
            | true =>
              have hpn : partK kd (prevK PS i) (false, u) = none := by rw [partK_text, if_pos hbad2.out]
              have hfin := Lib.hid (hbadr.out wc hC.out hpn)
              clear hrel hbadr hpn hprev
              go_wp2_with fail
              (try rw [Exit.noGoto_ret])
              go_ret
              exact ⟨false, rfl, hfin.out.1, hfin.out.2.1, fun _ => rfl, fun x hx => by rw [hfin.out.2.2] at hx; cases hx⟩
            | false =>
              have hpa : partK kd (prevK PS i) (false, u) = some (if kd = 2 then u else textB (decide (kd = 0)) (prevK PS i).isSome u) := by
                rw [partK_text, if_neg (by rw [hbad2.out]; decide)]
              clear hbadr hbad2
              by_cases h2 : kd = 2
              · subst h2
                rw [if_pos rfl] at hpa
                have hrel2 := Lib.hid (fun wx => hrel.out u wx hpa (by omega))
                have hws := Lib.hid (fun W (h : Bd w0 W g ((bs ++ openK 2) ++ X)) => writeString_bd w0 W g ((bs ++ openK 2) ++ X) u h (by omega))
                rw [← hst.out] at hws
                clear hrel hpa hprev
                go_upto_region 16 with fail
                obtain ⟨r0, r1, r2, r3⟩ := hP0.out wc.drew hC.out.drew
                have hB9 := Lib.hid (hB7.out.chg hC.out.drew)
                have hKg := Lib.hid (Kept.of (g := g) hC.out.drew (by simp))
                clear p0 p1 p2 p3 hP0 hC
                refine wp_region_any (by kernel_rfl) ?_
                (try (change wpAny _ _ _ _ _ _ _ (World.drew _)))
                refine wpAny_take (i := 0) (v := ?_) rfl (by kernel_rfl) (by kernel_rfl) (by kernel_rfl) (fun _ _ _ h => h) (Or.inl ⟨by kernel_rfl, ?_⟩) ?_
                rotate_left
                · (intro w; go_simp; try with_reducible rfl)
                change wpAny _ _ _ _ _ _ (Act.put _ (some 137) _) _
                (try simp only [Act.put, List.setIfInBounds_toArray, List.set_cons_zero, List.set_cons_succ])
                (generalize World.drew wc = w6 at hB9 hKg r0 r1 r2 r3 ⊢)
                refine wpAny_take (i := 1) (v := ?_) rfl (by kernel_rfl) (by kernel_rfl) (by kernel_rfl) (fun _ _ _ h => h) (Or.inl ⟨by kernel_rfl, ?_⟩) ?_
                rotate_left
                · (intro w; go_simp; try with_reducible rfl)
                change wpAny _ _ _ _ _ _ (Act.put _ (some 138) _) _
                (try simp only [Act.put, List.setIfInBounds_toArray, List.set_cons_zero, List.set_cons_succ])
                refine wpAny_take (i := 2) (v := ?_) rfl (by kernel_rfl) (by kernel_rfl) (by kernel_rfl) (fun _ _ _ h => h) (Or.inl ⟨by kernel_rfl, ?_⟩) ?_
                rotate_left
                · (intro w; go_simp; try with_reducible rfl)
                change wpAny _ _ _ _ _ _ (Act.put _ (some 139) _) _
                (try simp only [Act.put, List.setIfInBounds_toArray, List.set_cons_zero, List.set_cons_succ])
                refine wpAny_take (i := 3) (v := ?_) rfl (by kernel_rfl) (by kernel_rfl) (by kernel_rfl) (fun _ _ _ h => h) (Or.inl ⟨by kernel_rfl, ?_⟩) ?_
                rotate_left
                · (intro w; go_simp; try with_reducible rfl)
                change wpAny _ _ _ _ _ _ (Act.put _ (some 140) _) _
                (try simp only [Act.put, List.setIfInBounds_toArray, List.set_cons_zero, List.set_cons_succ])
                refine wpAny_ready (rs := [4]) (by kernel_rfl) (by simp) ?_
                refine AllReady.cons rfl (fun K hK => ?_) ?_
                · go_simp
                  (try (refine hK _ _ ?_; clear hK K))
                  (try simp only [Act.put, List.setIfInBounds_toArray, List.set_cons_zero, List.set_cons_succ])
                  refine wpAny_ready (rs := [5]) (by kernel_rfl) (by simp) ?_
                  refine AllReady.cons rfl (fun K hK => ?_) ?_
                  · go_simp
                    go_wp2_with (first
                        | (refine (hws.out _ hB9.out).mono ?_; rintro e w8 ⟨⟨n9, rfl⟩, hB9', hK9⟩))
                    (try (refine hK _ _ ?_; clear hK K))
                    (try simp only [Act.put, List.setIfInBounds_toArray, List.set_cons_zero, List.set_cons_succ])
                    refine wpAny_done (by kernel_rfl) ?_ _
                    (try simp only [Act.put, List.setIfInBounds_toArray, List.set_cons_zero, List.set_cons_succ])
                    have hfin := Lib.hid (hrel2.out _ hB9' ((hK7.out.trans hKg.out).trans hK9) (hKg.out.trans hK9))
                    clear hB9' hK9 hB9 hKg hws r0 r1 r2 r3
                    go_wp2_with fail
                    go_roundg (n - (i + 1))
                    case measure => omega
                    case rel =>
                      obtain ⟨i', X', h1, h2⟩ := hfin.out
                      exact ⟨i', X', by rw [← h1], h2⟩
                  exact AllReady.nil
                exact AllReady.nil
              · rw [if_neg h2] at hpa
                have hB9 := Lib.hid (hB7.out.chg hC.out)
                have hKg := Lib.hid (Kept.of (g := g) hC.out (by simp))
                obtain ⟨po, hpo⟩ : ∃ po, decide ((i : Int) > 0) = po := ⟨_, rfl⟩
                have hpo2 : decide (0 < i) = po := by rw [← hpo]; simp
                have hps : (prevK PS i).isSome = po := by
                  rw [← hpo]
                  rcases hprev.out with ⟨hi0, hpv⟩ | ⟨pv, hi0, hpv, -⟩
                  · rw [hpv]; simp; omega
                  · rw [hpv]; simp; omega
                have hkk : kd = 0 ∨ kd = 1 := hk012.out.imp id (fun h => h.resolve_right h2)
                rcases hkk with rfl | rfl
                · have hrel2 := Lib.hid (fun wx => hrel.out (textB (decide (((0 : Int)) = 0)) (prevK PS i).isSome u) wx hpa (by have := textB_len (decide (((0 : Int)) = 0)) u (prevK PS i).isSome; omega))
                  rw [hps, show decide (((0 : Int)) = 0) = true from rfl] at hrel2
                  have htx := Lib.hid (text_any w0 wc g ((bs ++ openK 0) ++ X) u true po hB9.out (by omega))
                  rw [← hst.out] at htx
                  clear hrel hpa hprev hP0 hC hps
                  go_wp2_with fail
                  refine (htx.out).mono ?_
                  rintro e w8 ⟨rfl, hB9', hK9⟩
                  have hfin := Lib.hid (hrel2.out _ hB9' ((hK7.out.trans hKg.out).trans hK9) (hKg.out.trans hK9))
                  clear hB9' hK9 hB9 hKg htx p0 p1 p2 p3
                  go_wp2_with fail
                  go_roundg (n - (i + 1))
                  case measure => omega
                  case rel =>
                    obtain ⟨i', X', h1, h2⟩ := hfin.out
                    exact ⟨i', X', by rw [← h1], h2⟩
                · have hrel2 := Lib.hid (fun wx => hrel.out (textB (decide (((1 : Int)) = 0)) (prevK PS i).isSome u) wx hpa (by have := textB_len (decide (((1 : Int)) = 0)) u (prevK PS i).isSome; omega))
                  rw [hps, show decide (((1 : Int)) = 0) = false from rfl] at hrel2
                  have htx := Lib.hid (text_any w0 wc g ((bs ++ openK 1) ++ X) u false po hB9.out (by omega))
                  rw [← hst.out] at htx
                  clear hrel hpa hprev hP0 hC hps
                  go_wp2_with fail
                  refine (htx.out).mono ?_
                  rintro e w8 ⟨rfl, hB9', hK9⟩
                  have hfin := Lib.hid (hrel2.out _ hB9' ((hK7.out.trans hKg.out).trans hK9) (hKg.out.trans hK9))
                  clear hB9' hK9 hB9 hKg htx p0 p1 p2 p3
                  go_wp2_with fail
                  go_roundg (n - (i + 1))
                  case measure => omega
                  case rel =>
                    obtain ⟨i', X', h1, h2⟩ := hfin.out
                    exact ⟨i', X', by rw [← h1], h2⟩
      · obtain rfl : i = n := by omega
        have hE : wordK (kd, PS) = some (openK kd ++ X ++ closeK kd) := by
          rw [hwk.out, run_end (by rw [hPl.out]; exact hRun.out)]; rfl
        have hws := Lib.hid (fun W (h : Bd w0 W g ((bs ++ openK kd) ++ X)) => writeString_bd w0 W g ((bs ++ openK kd) ++ X) (closeK kd) h (by
          have h1 := open_len kd
          have h2 := close_len kd
          have h3 := hlen.out
          have h4 := cost_take PS i
          rw [List.length_append, List.length_append]; omega))
        replace hE := Lib.hid hE
        clear hwk hRun
        go_upto_region 18 with fail
        have hB9 := Lib.hid (hB.out.chg (Chg.refl [] wr).drew)
        have hKg := Lib.hid (hK.out.trans (Kept.of (g := g) (Chg.refl [] wr).drew (by simp)))
        have hF9 := Lib.hid ((Chg.refl [] wr).drew.heap hF.out (by simp))
        have f1 : wr.drew.cell? ⟨k5, 1, none⟩ = some (.string (bstr (closeK kd))) := by have := hF9.out; simp [World.cell?, this]
        clear hB hK hF hW
        refine wp_region_any (by kernel_rfl) ?_
        (try (change wpAny _ _ _ _ _ _ _ (World.drew _)))
        refine wpAny_take (i := 0) (v := ?_) rfl (by kernel_rfl) (by kernel_rfl) (by kernel_rfl) (fun _ _ _ h => h) (Or.inl ⟨by kernel_rfl, ?_⟩) ?_
        rotate_left
        · (intro w; go_simp; try with_reducible rfl)
        change wpAny _ _ _ _ _ _ (Act.put _ (some 144) _) _
        (try simp only [Act.put, List.setIfInBounds_toArray, List.set_cons_zero, List.set_cons_succ])
        (generalize World.drew wr = w6 at hB9 hKg hF9 f1 ⊢)
        refine wpAny_take (i := 1) (v := ?_) rfl (by kernel_rfl) (by kernel_rfl) (by kernel_rfl) (fun _ _ _ h => h) (Or.inl ⟨by kernel_rfl, ?_⟩) ?_
        rotate_left
        · (intro w; go_simp; try with_reducible rfl)
        change wpAny _ _ _ _ _ _ (Act.put _ (some 145) _) _
        (try simp only [Act.put, List.setIfInBounds_toArray, List.set_cons_zero, List.set_cons_succ])
        refine wpAny_take (i := 2) (v := ?_) rfl (by kernel_rfl) (by kernel_rfl) (by kernel_rfl) (fun _ _ _ h => h) (Or.inl ⟨by kernel_rfl, ?_⟩) ?_
        rotate_left
        · (intro w; go_simp; try with_reducible rfl)
        change wpAny _ _ _ _ _ _ (Act.put _ (some 146) _) _
        (try simp only [Act.put, List.setIfInBounds_toArray, List.set_cons_zero, List.set_cons_succ])
        refine wpAny_ready (rs := [3]) (by kernel_rfl) (by simp) ?_
        refine AllReady.cons rfl (fun K hK => ?_) ?_
        · go_simp
          (try (refine hK _ _ ?_; clear hK K))
          (try simp only [Act.put, List.setIfInBounds_toArray, List.set_cons_zero, List.set_cons_succ])
          refine wpAny_ready (rs := [4]) (by kernel_rfl) (by simp) ?_
          refine AllReady.cons rfl (fun K hK => ?_) ?_
          · go_simp
            (try (refine hK _ _ ?_; clear hK K))
            (try simp only [Act.put, List.setIfInBounds_toArray, List.set_cons_zero, List.set_cons_succ])
            refine wpAny_ready (rs := [5]) (by kernel_rfl) (by simp) ?_
            refine AllReady.cons rfl (fun K hK => ?_) ?_
            · go_simp
              go_wp2_with (first
                  | (refine (hws.out _ hB9.out).mono ?_; rintro e w8 ⟨⟨n9, rfl⟩, hB9', hK9⟩))
              (try (refine hK _ _ ?_; clear hK K))
              (try simp only [Act.put, List.setIfInBounds_toArray, List.set_cons_zero, List.set_cons_succ])
              refine wpAny_done (by kernel_rfl) ?_ _
              (try simp only [Act.put, List.setIfInBounds_toArray, List.set_cons_zero, List.set_cons_succ])
              replace hB9' := Lib.hid hB9'
              replace hK9 := Lib.hid (hKg.out.trans hK9)
              clear hB9 hKg hF9 f1 hws
              go_wp2_with fail
              go_ret
              refine ⟨true, rfl, hB9'.out.C, hK9.out, (fun h => by rw [hE.out] at h; cases h), fun x hx => ⟨rfl, ?_⟩⟩
              rw [hE.out] at hx
              cases hx
              have := hB9'.out
              simp only [List.append_assoc] at this ⊢
              exact this
            exact AllReady.nil
          exact AllReady.nil
        exact AllReady.nil
end Go.Proofs.Yteodhnblbehenaa
