/- Contract of package tcl's word. Conditions: as it states. -/
import Derived.Test.YtakcolililbkjaaTclParts
import Derived.Test.YtakcolililbkjaaTclWd
import Derived.StillTailTactics
set_option linter.unusedVariables false
set_option linter.unusedSimpArgs false
namespace Go.Proofs.Ytakcolililbkjaa
open Go.RowKit Tcl
/-- A word's variable at block `b`. -/
def WS (w : World) (b : Nat) (v0 v1 v2 : Value) : Prop := w.heap[b]? = some (.cells #[v0, v1, v2] 38 (0, 0))
theorem WS.chg {S : List Nat} {w w' : World} {b : Nat} {v0 v1 v2 : Value} (h : WS w b v0 v1 v2) (hc : Chg S w w') (hb : b ∉ S) : WS w' b v0 v1 v2 := hc.heap h hb
theorem WS.c0 {w : World} {b : Nat} {v0 v1 v2 : Value} (h : WS w b v0 v1 v2) : w.cell? ⟨b, 0, none⟩ = some v0 ∧ w.cell? ⟨b, 1, none⟩ = some v1 ∧ w.cell? ⟨b, 2, none⟩ = some v2 := by
  unfold WS at h; simp [World.cell?, h]
theorem WS.f0 {w : World} {b : Nat} {v0 v1 v2 : Value} (h : WS w b v0 v1 v2) (k : Nat) : w.frozen? ⟨b, k, none⟩ = false := by
  unfold WS at h; simp [World.frozen?, h]
/-- What `word` tells. -/
def WdEnd (w : World) (g : Nat) (s : List UInt8) (i : Nat) (c : UInt8) (a0 : Int) (e : Ending) (w' : World) : Prop :=
  ∃ (k : Int) (A : Option Addr) (n cc : Nat), e = .returned (.agg #[.int .i64 i, .int .i64 k, .slice A n cc]) ∧ Chg [g] w w' ∧
    ((∃ wd j, word s i c = .ok (wd, j) ∧ PS w' g (bstr s) j a0 0 ∧ wd.at_ = i ∧ k = wd.kind ∧ n = wd.parts.length ∧ PartsAt w' (.slice A n cc) wd.parts ∧ ∀ q, (Value.slice A n cc).ownBlock = some q → w.heap.size ≤ q)
    ∨ (∃ p q : Nat, word s i c = .error (p, q) ∧ PS w' g (bstr s) s.length p q ∧ q ≠ 0))
set_option maxRecDepth 100000 in
set_option maxHeartbeats 16000000 in
theorem word_any (w : World) (g : Nat) (s : List UInt8) (i : Nat) (c : UInt8) (a0 : Int) (hs : s.length ≤ 16777300) (hc : s[i]? = some c) (hst : stopB c = false) (h : PS w g (bstr s) i a0 0) :
    Calls Try.prog 50 #[.pointer (some ⟨g, 0, none⟩)] w (WdEnd w g s i c a0) := by
  have hsz : (bstr s).size = s.length := rfl
  have hil := lt_of_some hc
  obtain ⟨B, hB⟩ : ∃ B, bstr s = B := ⟨_, rfl⟩
  have hby : ∀ i (h : i < B.size), s[i]? = some (B[i]'h) := by rw [← hB]; exact fun i h => byte_of h
  have hgl := lt_heap h
  unfold WdEnd
  have hbr := Lib.hid (fun W (hc' : s[i]? = some 123) (hP : PS W g (bstr s) i a0 0) => braced_any W g s i a0 hs hc' hP)
  have hpq := Lib.hid (fun W (hP : PS W g (bstr s) (i + 1 : Nat) a0 0) => parts_any W g s ⟨#[34]⟩ quoteB (fun c => in_quote c _ rfl) (some i) i (.inr ⟨i, rfl, rfl, by omega⟩) (i + 1) a0 hs (by omega) hP)
  have hpb := Lib.hid (fun W (hP : PS W g (bstr s) i a0 0) => parts_any W g s ⟨#[32, 9, 10, 59]⟩ stopB (fun c => in_stops c _ rfl) none (-1) (.inl ⟨rfl, rfl⟩) i a0 hs (by omega) hP)
  rw [hB] at h hsz hbr hpq hpb ⊢
  obtain ⟨c0, c1, -, -⟩ := h.c0
  have hlB : i < B.size := by omega
  have hcB : B[i]'hlB = c := by have := hby i hlB; rw [hc] at this; exact (Option.some.inj this).symm
  replace hby := Lib.hid hby
  go_enter Try.func50, Try.ntmps50
  go_wp2_with fail
  have hP : Hid (PS ((w.alloc (.cells #[.int .i64 0, .int .i64 0, .slice none 0 0] 38)).alloc (.cells #[.int .i64 i, .int .i64 0, .slice none 0 0] 38)) g B i a0 0) := Lib.hid (PS.chg h (((Chg.refl [] w).alloc _).alloc _) (by simp))
  have hR : Hid (WS ((w.alloc (.cells #[.int .i64 0, .int .i64 0, .slice none 0 0] 38)).alloc (.cells #[.int .i64 i, .int .i64 0, .slice none 0 0] 38)) w.heap.size (.int .i64 0) (.int .i64 0) (.slice none 0 0)) := Lib.hid (blk_alloc (blk_new _ _) _)
  have hW : Hid (WS ((w.alloc (.cells #[.int .i64 0, .int .i64 0, .slice none 0 0] 38)).alloc (.cells #[.int .i64 i, .int .i64 0, .slice none 0 0] 38)) (w.heap.size + 1) (.int .i64 i) (.int .i64 0) (.slice none 0 0)) := Lib.hid (by
    have := blk_new (w.alloc (.cells #[.int .i64 0, .int .i64 0, .slice none 0 0] 38)) (.cells #[.int .i64 i, .int .i64 0, .slice none 0 0] 38)
    rw [show (w.alloc (.cells #[.int .i64 0, .int .i64 0, .slice none 0 0] 38)).heap.size = w.heap.size + 1 from Array.size_push ..] at this
    exact this)
  have hC : Hid (Chg [g] w ((w.alloc (.cells #[.int .i64 0, .int .i64 0, .slice none 0 0] 38)).alloc (.cells #[.int .i64 i, .int .i64 0, .slice none 0 0] 38))) := Lib.hid (((Chg.refl [g] w).alloc _).alloc _)
  have hB1 : Hid (w.heap.size + 2 ≤ ((w.alloc (.cells #[.int .i64 0, .int .i64 0, .slice none 0 0] 38)).alloc (.cells #[.int .i64 i, .int .i64 0, .slice none 0 0] 38)).heap.size) := Lib.hid (by simp)
  generalize (w.alloc (.cells #[.int .i64 0, .int .i64 0, .slice none 0 0] 38)).alloc (.cells #[.int .i64 i, .int .i64 0, .slice none 0 0] 38) = w1 at hP hR hW hC hB1 ⊢
  clear h c0 c1

  obtain ⟨c0, c1, c2, c3⟩ := hP.out.c0
  have f1 := hP.out.f0 1
  obtain ⟨d0, d1, d2⟩ := hW.out.c0
  have e0 := hW.out.f0 0
  have e1 := hW.out.f0 1
  have e2 := hW.out.f0 2
  obtain ⟨r0, r1, r2⟩ := hR.out.c0
  have x0 := hR.out.f0 0
  have x1 := hR.out.f0 1
  have x2 := hR.out.f0 2

  go_wp2_with fail
  go_quiet (fail)
  replace hP := Lib.hid (PS.chg hP.out ((Chg.refl [] _).drewN nq) (by simp))
  replace hW := Lib.hid (WS.chg hW.out ((Chg.refl [] _).drewN nq) (by simp))
  replace hR := Lib.hid (WS.chg hR.out ((Chg.refl [] _).drewN nq) (by simp))
  replace hC := Lib.hid (hC.out.drewN nq)
  have hB2 : Hid (w.heap.size + 2 ≤ (World.drewN w1 nq).heap.size) := hB1.out
  clear c0 c1 c2 c3 f1 d0 d1 d2 e0 e1 e2 r0 r1 r2 x0 x1 x2
  generalize World.drewN _ _ = w2 at hP hW hR hC hB2 ⊢
  clear hB1

  obtain ⟨c0, c1, c2, c3⟩ := hP.out.c0
  have f1 := hP.out.f0 1
  obtain ⟨d0, d1, d2⟩ := hW.out.c0
  have e0 := hW.out.f0 0
  have e1 := hW.out.f0 1
  have e2 := hW.out.f0 2
  obtain ⟨r0, r1, r2⟩ := hR.out.c0
  have x0 := hR.out.f0 0
  have x1 := hR.out.f0 1
  have x2 := hR.out.f0 2

  by_cases q1 : c = 123
  · subst q1
    replace hP := Lib.hid (PS.chg hP.out ((Chg.refl [w.heap.size + 1] w2).setCell (p := ⟨w.heap.size + 1, 1, none⟩) (.inl (by simp)) (.int .i64 2)) (by have := hgl; simp; omega))
    replace hR := Lib.hid (WS.chg hR.out ((Chg.refl [w.heap.size + 1] w2).setCell (p := ⟨w.heap.size + 1, 1, none⟩) (.inl (by simp)) (.int .i64 2)) (by simp))
    replace hC := Lib.hid (hC.out.setCell (p := ⟨w.heap.size + 1, 1, none⟩) (.inr (Nat.le_succ _)) (.int .i64 2))
    replace hW : Hid (WS (w2.setCell ⟨w.heap.size + 1, 1, none⟩ (.int .i64 2)) (w.heap.size + 1) (.int .i64 i) (.int .i64 2) (.slice none 0 0)) := Lib.hid (blk_set hW.out 1 (.int .i64 2))

    go_wp2_with fail
    refine (hbr.out _ hc hP.out).mono ?_
    rintro e w4 ⟨v, rfl, hC4, hcase⟩
    clear c0 c1 c2 c3 f1 d0 d1 d2 e0 e1 e2 r0 r1 r2 x0 x1 x2

    replace hW := Lib.hid (WS.chg hW.out hC4 (by have := hgl; simp; omega))
    replace hR := Lib.hid (WS.chg hR.out hC4 (by have := hgl; simp; omega))
    replace hC := Lib.hid (hC.out.trans hC4)

    have hB4 : Hid (w.heap.size + 2 ≤ (w2.setCell ⟨w.heap.size + 1, 1, none⟩ (.int .i64 2)).heap.size) := Lib.hid (by have := hB2.out; simp; omega)
    rcases hcase with ⟨j, hj, hP4, hpt, hbk⟩ | ⟨p, q, hj, hP4, rfl, hq⟩
    · obtain ⟨A, cc, rfl, -⟩ := id hpt
      obtain ⟨n, hnn⟩ : ∃ n, (if j = i + 2 then [] else [⟨false, sub s (i + 1) (j - 1)⟩] : List Part).length = n := ⟨_, rfl⟩
      have hn : Hid (n = (if j = i + 2 then [] else [⟨false, sub s (i + 1) (j - 1)⟩] : List Part).length) := hnn.symm
      have hjb := braced_bound s i (s.length - i) i 0 j (by omega) hj
      rw [hB] at hP4
      replace hP := Lib.hid hP4
      rw [hnn] at hbk
      have hS : Hid (PartsAt w4 (.slice A n cc) (if j = i + 2 then [] else [⟨false, sub s (i + 1) (j - 1)⟩])) := Lib.hid (by rw [← hnn]; exact hpt)
      have hS0 : Hid (∀ q, (Value.slice A n cc).ownBlock = some q → w.heap.size + 2 ≤ q) := fun q hq => Nat.le_trans hB4.out (hbk q hq)
      rw [hnn]
      clear hP4 hpt hbk hC4 hnn
      obtain ⟨c0, c1, c2, c3⟩ := hP.out.c0
      have f1 := hP.out.f0 1
      obtain ⟨d0, d1, d2⟩ := hW.out.c0
      have e0 := hW.out.f0 0
      have e1 := hW.out.f0 1
      have e2 := hW.out.f0 2
      obtain ⟨r0, r1, r2⟩ := hR.out.c0
      have x0 := hR.out.f0 0
      have x1 := hR.out.f0 1
      have x2 := hR.out.f0 2

      replace hP := Lib.hid (PS.chg hP.out ((Chg.refl [w.heap.size + 1] w4).setCell (p := ⟨w.heap.size + 1, 2, none⟩) (.inl (by simp)) (.slice A n cc)) (by have := hgl; simp; omega))
      replace hR := Lib.hid (WS.chg hR.out ((Chg.refl [w.heap.size + 1] w4).setCell (p := ⟨w.heap.size + 1, 2, none⟩) (.inl (by simp)) (.slice A n cc)) (by simp))
      replace hC := Lib.hid (hC.out.setCell (p := ⟨w.heap.size + 1, 2, none⟩) (.inr (Nat.le_succ _)) (.slice A n cc))
      replace hS := Lib.hid (Sl.chg hS.out ((Chg.refl [w.heap.size + 1] w4).setCell (p := ⟨w.heap.size + 1, 2, none⟩) (.inl (by simp)) (.slice A n cc)) (fun _ q hq hm => by have := hS0.out q hq; simp at hm; omega))
      replace hW : Hid (WS (w4.setCell ⟨w.heap.size + 1, 2, none⟩ (.slice A n cc)) (w.heap.size + 1) (.int .i64 i) (.int .i64 2) (.slice A n cc)) := Lib.hid (blk_set hW.out 2 (.slice A n cc))
      by_cases hlj : j < s.length
      · have hljB : j < B.size := by omega
        obtain ⟨cj, hcj⟩ : ∃ cj, B[j]'hljB = cj := ⟨_, rfl⟩
        have hsj : s[j]? = some cj := by rw [hby.out _ hljB, hcj]
        cases hst2 : stopB cj with
        | true =>
          have hE := Lib.hid (word_b_ok hj (behind_ok hsj hst2))
          have hin := Lib.hid (fun W => in_any ⟨#[32, 9, 10, 59]⟩ cj true (in_stops cj true hst2) W)
          go_wp2_with fail
          go_quiet ((go_at_call 40; exact (hin.out _).mono (fun e w' h => ⟨h.1, _, h.2.symm⟩)))
          replace hP := Lib.hid (PS.chg hP.out ((Chg.refl [] _).drewN nq) (by simp))
          replace hW := Lib.hid (WS.chg hW.out ((Chg.refl [] _).drewN nq) (by simp))
          replace hR := Lib.hid (WS.chg hR.out ((Chg.refl [] _).drewN nq) (by simp))
          replace hC := Lib.hid (hC.out.drewN nq)
          replace hS := Lib.hid (Sl.chg hS.out ((Chg.refl [] _).drewN nq) (by simp))
          clear c0 c1 c2 c3 f1 d0 d1 d2 e0 e1 e2 r0 r1 r2 x0 x1 x2
          generalize World.drewN _ _ = w8 at hP hW hR hC hS ⊢

          obtain ⟨c0, c1, c2, c3⟩ := hP.out.c0
          have f1 := hP.out.f0 1
          obtain ⟨d0, d1, d2⟩ := hW.out.c0
          have e0 := hW.out.f0 0
          have e1 := hW.out.f0 1
          have e2 := hW.out.f0 2
          obtain ⟨r0, r1, r2⟩ := hR.out.c0
          have x0 := hR.out.f0 0
          have x1 := hR.out.f0 1
          have x2 := hR.out.f0 2
          go_wp2_with fail
          clear c0 c1 c2 c3 f1 d0 d1 d2 e0 e1 e2 r0 r1 r2 x0 x1 x2
          have hF := Lib.hid (show WS _ w.heap.size (.int .i64 i) (.int .i64 2) (.slice A n cc) from blk_set (blk_set (blk_set hR.out 0 (.int .i64 i)) 1 (.int .i64 2)) 2 (.slice A n cc))
          have h3 := fun (W : World) => ((((Chg.refl [w.heap.size] W).setCell (p := ⟨w.heap.size, 0, none⟩) (.inl (by simp)) (.int .i64 i)).setCell (p := ⟨w.heap.size, 1, none⟩) (.inl (by simp)) (.int .i64 2)).setCell (p := ⟨w.heap.size, 2, none⟩) (.inl (by simp)) (.slice A n cc))
          refine bodyPost_ret (v := .agg #[.int .i64 i, .int .i64 2, .slice A n cc]) ?_ rfl ⟨2, A, n, cc, rfl, ((hC.out.setCell (.inr (Nat.le_refl _)) _).setCell (.inr (Nat.le_refl _)) _).setCell (.inr (Nat.le_refl _)) _, ?_⟩
          · exact results_cell_row rfl _ _ _ 38 _ (0, 0) _ rfl hF.out Try.underlying38 rfl (by kernel_rfl)
          · exact .inl ⟨_, _, hE.out, PS.chg hP.out (h3 _) (by have := hgl; simp; omega), rfl, rfl, hn.out, hS.out.chg (h3 _) (fun _ q hq hm => by have := hS0.out q hq; simp at hm; omega), fun q hq => by have := hS0.out q hq; omega⟩
        | false =>
          have hE := Lib.hid (word_b_bad hj (behind_bad hsj hst2))
          have hin := Lib.hid (fun W => in_any ⟨#[32, 9, 10, 59]⟩ cj false (in_stops cj false hst2) W)
          have hq0 : Hid ((4 : Nat) ≠ 0) := Lib.hid (by decide)
          go_wp2_with fail
          go_quiet ((go_at_call 40; exact (hin.out _).mono (fun e w' h => ⟨h.1, _, h.2.symm⟩)))
          replace hP := Lib.hid (PS.chg hP.out ((Chg.refl [] _).drewN nq) (by simp))
          replace hW := Lib.hid (WS.chg hW.out ((Chg.refl [] _).drewN nq) (by simp))
          replace hR := Lib.hid (WS.chg hR.out ((Chg.refl [] _).drewN nq) (by simp))
          replace hC := Lib.hid (hC.out.drewN nq)
          replace hS := Lib.hid (Sl.chg hS.out ((Chg.refl [] _).drewN nq) (by simp))
          clear c0 c1 c2 c3 f1 d0 d1 d2 e0 e1 e2 r0 r1 r2 x0 x1 x2
          generalize World.drewN _ _ = w8 at hP hW hR hC hS ⊢

          obtain ⟨c0, c1, c2, c3⟩ := hP.out.c0
          have f1 := hP.out.f0 1
          obtain ⟨d0, d1, d2⟩ := hW.out.c0
          have e0 := hW.out.f0 0
          have e1 := hW.out.f0 1
          have e2 := hW.out.f0 2
          obtain ⟨r0, r1, r2⟩ := hR.out.c0
          have x0 := hR.out.f0 0
          have x1 := hR.out.f0 1
          have x2 := hR.out.f0 2
          go_wp2_with fail
          refine (fail_first w8 g B _ a0 (j : Nat) 4 hP.out).mono ?_
          rintro e w9 ⟨rfl, hP9, hC9⟩
          clear c0 c1 c2 c3 f1 d0 d1 d2 e0 e1 e2 r0 r1 r2 x0 x1 x2

          replace hW := Lib.hid (WS.chg hW.out hC9 (by have := hgl; simp; omega))
          replace hR := Lib.hid (WS.chg hR.out hC9 (by have := hgl; simp; omega))
          replace hC := Lib.hid (hC.out.trans hC9)

          replace hP : Hid (PS w9 g B s.length ((j : Nat) : Int) ((4 : Nat) : Int)) := Lib.hid (by rw [hsz] at hP9; exact hP9)
          clear hP9 hC9

          obtain ⟨c0, c1, c2, c3⟩ := hP.out.c0
          have f1 := hP.out.f0 1
          obtain ⟨d0, d1, d2⟩ := hW.out.c0
          have e0 := hW.out.f0 0
          have e1 := hW.out.f0 1
          have e2 := hW.out.f0 2
          obtain ⟨r0, r1, r2⟩ := hR.out.c0
          have x0 := hR.out.f0 0
          have x1 := hR.out.f0 1
          have x2 := hR.out.f0 2
          go_wp2_with fail
          clear c0 c1 c2 c3 f1 d0 d1 d2 e0 e1 e2 r0 r1 r2 x0 x1 x2
          have hF := Lib.hid (show WS _ w.heap.size (.int .i64 i) (.int .i64 2) (.slice A n cc) from blk_set (blk_set (blk_set hR.out 0 (.int .i64 i)) 1 (.int .i64 2)) 2 (.slice A n cc))
          have h3 := fun (W : World) => ((((Chg.refl [w.heap.size] W).setCell (p := ⟨w.heap.size, 0, none⟩) (.inl (by simp)) (.int .i64 i)).setCell (p := ⟨w.heap.size, 1, none⟩) (.inl (by simp)) (.int .i64 2)).setCell (p := ⟨w.heap.size, 2, none⟩) (.inl (by simp)) (.slice A n cc))
          refine bodyPost_ret (v := .agg #[.int .i64 i, .int .i64 2, .slice A n cc]) ?_ rfl ⟨2, A, n, cc, rfl, ((hC.out.setCell (.inr (Nat.le_refl _)) _).setCell (.inr (Nat.le_refl _)) _).setCell (.inr (Nat.le_refl _)) _, ?_⟩
          · exact results_cell_row rfl _ _ _ 38 _ (0, 0) _ rfl hF.out Try.underlying38 rfl (by kernel_rfl)
          · exact .inr ⟨_, _, hE.out, PS.chg hP.out (h3 _) (by have := hgl; simp; omega), hq0.out⟩
      · have hE := Lib.hid (word_b_ok hj (behind_none (by omega)))
        have hdec : decide (((j : Nat) : Int) < (s.length : Int)) = false := by simp; omega
        have hdec2 : decide (j < s.length) = false := by simp; omega
        go_wp2_with fail
        go_quiet (fail)
        replace hP := Lib.hid (PS.chg hP.out ((Chg.refl [] _).drewN nq) (by simp))
        replace hW := Lib.hid (WS.chg hW.out ((Chg.refl [] _).drewN nq) (by simp))
        replace hR := Lib.hid (WS.chg hR.out ((Chg.refl [] _).drewN nq) (by simp))
        replace hC := Lib.hid (hC.out.drewN nq)
        replace hS := Lib.hid (Sl.chg hS.out ((Chg.refl [] _).drewN nq) (by simp))
        clear c0 c1 c2 c3 f1 d0 d1 d2 e0 e1 e2 r0 r1 r2 x0 x1 x2
        generalize World.drewN _ _ = w8 at hP hW hR hC hS ⊢

        obtain ⟨c0, c1, c2, c3⟩ := hP.out.c0
        have f1 := hP.out.f0 1
        obtain ⟨d0, d1, d2⟩ := hW.out.c0
        have e0 := hW.out.f0 0
        have e1 := hW.out.f0 1
        have e2 := hW.out.f0 2
        obtain ⟨r0, r1, r2⟩ := hR.out.c0
        have x0 := hR.out.f0 0
        have x1 := hR.out.f0 1
        have x2 := hR.out.f0 2
        go_wp2_with fail
        clear c0 c1 c2 c3 f1 d0 d1 d2 e0 e1 e2 r0 r1 r2 x0 x1 x2
        have hF := Lib.hid (show WS _ w.heap.size (.int .i64 i) (.int .i64 2) (.slice A n cc) from blk_set (blk_set (blk_set hR.out 0 (.int .i64 i)) 1 (.int .i64 2)) 2 (.slice A n cc))
        have h3 := fun (W : World) => ((((Chg.refl [w.heap.size] W).setCell (p := ⟨w.heap.size, 0, none⟩) (.inl (by simp)) (.int .i64 i)).setCell (p := ⟨w.heap.size, 1, none⟩) (.inl (by simp)) (.int .i64 2)).setCell (p := ⟨w.heap.size, 2, none⟩) (.inl (by simp)) (.slice A n cc))
        refine bodyPost_ret (v := .agg #[.int .i64 i, .int .i64 2, .slice A n cc]) ?_ rfl ⟨2, A, n, cc, rfl, ((hC.out.setCell (.inr (Nat.le_refl _)) _).setCell (.inr (Nat.le_refl _)) _).setCell (.inr (Nat.le_refl _)) _, ?_⟩
        · exact results_cell_row rfl _ _ _ 38 _ (0, 0) _ rfl hF.out Try.underlying38 rfl (by kernel_rfl)
        · exact .inl ⟨_, _, hE.out, PS.chg hP.out (h3 _) (by have := hgl; simp; omega), rfl, rfl, hn.out, hS.out.chg (h3 _) (fun _ q hq hm => by have := hS0.out q hq; simp at hm; omega), fun q hq => by have := hS0.out q hq; omega⟩

    · have hE := Lib.hid (word_b_err hj)
      rw [hB] at hP4
      replace hP := Lib.hid hP4
      have hq0 := Lib.hid hq
      obtain ⟨A, hA⟩ : ∃ A : Option Addr, A = none := ⟨_, rfl⟩
      obtain ⟨n, hn⟩ : ∃ n : Nat, n = 0 := ⟨_, rfl⟩
      obtain ⟨cc, hcc⟩ : ∃ n : Nat, n = 0 := ⟨_, rfl⟩
      have hnil : Value.slice none 0 0 = .slice A n cc := by rw [hA, hn, hcc]
      rw [hnil]
      clear hP4 hC4 hj hA hn hcc hnil
      obtain ⟨c0, c1, c2, c3⟩ := hP.out.c0
      have f1 := hP.out.f0 1
      obtain ⟨d0, d1, d2⟩ := hW.out.c0
      have e0 := hW.out.f0 0
      have e1 := hW.out.f0 1
      have e2 := hW.out.f0 2
      obtain ⟨r0, r1, r2⟩ := hR.out.c0
      have x0 := hR.out.f0 0
      have x1 := hR.out.f0 1
      have x2 := hR.out.f0 2

      replace hP := Lib.hid (PS.chg hP.out ((Chg.refl [w.heap.size + 1] w4).setCell (p := ⟨w.heap.size + 1, 2, none⟩) (.inl (by simp)) (.slice A n cc)) (by have := hgl; simp; omega))
      replace hR := Lib.hid (WS.chg hR.out ((Chg.refl [w.heap.size + 1] w4).setCell (p := ⟨w.heap.size + 1, 2, none⟩) (.inl (by simp)) (.slice A n cc)) (by simp))
      replace hC := Lib.hid (hC.out.setCell (p := ⟨w.heap.size + 1, 2, none⟩) (.inr (Nat.le_succ _)) (.slice A n cc))
      replace hW : Hid (WS (w4.setCell ⟨w.heap.size + 1, 2, none⟩ (.slice A n cc)) (w.heap.size + 1) (.int .i64 i) (.int .i64 2) (.slice A n cc)) := Lib.hid (blk_set hW.out 2 (.slice A n cc))
      have hdec : decide ((s.length : Int) < (s.length : Int)) = false := by simp

      go_wp2_with fail
      go_quiet (fail)
      replace hP := Lib.hid (PS.chg hP.out ((Chg.refl [] _).drewN nq) (by simp))
      replace hW := Lib.hid (WS.chg hW.out ((Chg.refl [] _).drewN nq) (by simp))
      replace hR := Lib.hid (WS.chg hR.out ((Chg.refl [] _).drewN nq) (by simp))
      replace hC := Lib.hid (hC.out.drewN nq)
      clear c0 c1 c2 c3 f1 d0 d1 d2 e0 e1 e2 r0 r1 r2 x0 x1 x2
      generalize World.drewN _ _ = w8 at hP hW hR hC ⊢

      obtain ⟨c0, c1, c2, c3⟩ := hP.out.c0
      have f1 := hP.out.f0 1
      obtain ⟨d0, d1, d2⟩ := hW.out.c0
      have e0 := hW.out.f0 0
      have e1 := hW.out.f0 1
      have e2 := hW.out.f0 2
      obtain ⟨r0, r1, r2⟩ := hR.out.c0
      have x0 := hR.out.f0 0
      have x1 := hR.out.f0 1
      have x2 := hR.out.f0 2

      go_wp2_with fail
      clear c0 c1 c2 c3 f1 d0 d1 d2 e0 e1 e2 r0 r1 r2 x0 x1 x2
      have hF := Lib.hid (show WS _ w.heap.size (.int .i64 i) (.int .i64 2) (.slice A n cc) from blk_set (blk_set (blk_set hR.out 0 (.int .i64 i)) 1 (.int .i64 2)) 2 (.slice A n cc))
      have h3 := fun (W : World) => ((((Chg.refl [w.heap.size] W).setCell (p := ⟨w.heap.size, 0, none⟩) (.inl (by simp)) (.int .i64 i)).setCell (p := ⟨w.heap.size, 1, none⟩) (.inl (by simp)) (.int .i64 2)).setCell (p := ⟨w.heap.size, 2, none⟩) (.inl (by simp)) (.slice A n cc))
      refine bodyPost_ret (v := .agg #[.int .i64 i, .int .i64 2, .slice A n cc]) ?_ rfl ⟨2, A, n, cc, rfl, ((hC.out.setCell (.inr (Nat.le_refl _)) _).setCell (.inr (Nat.le_refl _)) _).setCell (.inr (Nat.le_refl _)) _, ?_⟩
      · exact results_cell_row rfl _ _ _ 38 _ (0, 0) _ rfl hF.out Try.underlying38 rfl (by kernel_rfl)
      · exact .inr ⟨_, _, hE.out, PS.chg hP.out (h3 _) (by have := hgl; simp; omega), hq0.out⟩

  have b1 := u8n (n := 123) q1
  by_cases q2 : c = 34
  · subst q2
    replace hP := Lib.hid (PS.chg hP.out ((Chg.refl [w.heap.size + 1] w2).setCell (p := ⟨w.heap.size + 1, 1, none⟩) (.inl (by simp)) (.int .i64 1)) (by have := hgl; simp; omega))
    replace hR := Lib.hid (WS.chg hR.out ((Chg.refl [w.heap.size + 1] w2).setCell (p := ⟨w.heap.size + 1, 1, none⟩) (.inl (by simp)) (.int .i64 1)) (by simp))
    replace hC := Lib.hid (hC.out.setCell (p := ⟨w.heap.size + 1, 1, none⟩) (.inr (Nat.le_succ _)) (.int .i64 1))
    replace hW : Hid (WS (w2.setCell ⟨w.heap.size + 1, 1, none⟩ (.int .i64 1)) (w.heap.size + 1) (.int .i64 i) (.int .i64 1) (.slice none 0 0)) := Lib.hid (blk_set hW.out 1 (.int .i64 1))

    have hcg : Chg [g] (w2.setCell ⟨w.heap.size + 1, 1, none⟩ (.int .i64 1)) ((w2.setCell ⟨w.heap.size + 1, 1, none⟩ (.int .i64 1)).setCell ⟨g, 1, none⟩ (.int .i64 ((i : Int) + 1))) := (Chg.refl [g] _).setCell (.inl (by simp)) _
    have hB3 : Hid (w.heap.size + 2 ≤ ((w2.setCell ⟨w.heap.size + 1, 1, none⟩ (.int .i64 1)).setCell ⟨g, 1, none⟩ (.int .i64 ((i : Int) + 1))).heap.size) := Lib.hid (by have := hB2.out; simp; omega)
    replace hW := Lib.hid (WS.chg hW.out hcg (by have := hgl; simp; omega))
    replace hR := Lib.hid (WS.chg hR.out hcg (by have := hgl; simp; omega))
    replace hC := Lib.hid (hC.out.trans hcg)

    replace hP : Hid (PS ((w2.setCell ⟨w.heap.size + 1, 1, none⟩ (.int .i64 1)).setCell ⟨g, 1, none⟩ (.int .i64 ((i : Int) + 1))) g B (i + 1 : Nat) a0 0) := Lib.hid (PS.put hP.out ((i : Int) + 1))
    go_wp2_with fail
    refine (hpq.out _ hP.out).mono ?_
    rintro e w4 ⟨A, n, cc, rfl, hC4, hcase⟩
    clear c0 c1 c2 c3 f1 d0 d1 d2 e0 e1 e2 r0 r1 r2 x0 x1 x2

    replace hW := Lib.hid (WS.chg hW.out hC4 (by have := hgl; simp; omega))
    replace hR := Lib.hid (WS.chg hR.out hC4 (by have := hgl; simp; omega))
    replace hC := Lib.hid (hC.out.trans hC4)

    rcases hcase with ⟨r, j, hgo, hP4, hn, hS, hbk⟩ | ⟨p, q, hgo, hP4, hq0⟩
    · have hjb := parts_bound quoteB s (some i) (s.length - (i + 1)) (i + 1) [] [] r j (by omega) (by omega) hgo
      rw [hB] at hP4
      replace hP := Lib.hid hP4
      replace hn := Lib.hid hn
      have hS0 : Hid (∀ q, (Value.slice A n cc).ownBlock = some q → w.heap.size + 2 ≤ q) := fun q hq => Nat.le_trans hB3.out (hbk q hq)
      replace hS := Lib.hid hS
      clear hP4 hbk hC4 hcg
      obtain ⟨c0, c1, c2, c3⟩ := hP.out.c0
      have f1 := hP.out.f0 1
      obtain ⟨d0, d1, d2⟩ := hW.out.c0
      have e0 := hW.out.f0 0
      have e1 := hW.out.f0 1
      have e2 := hW.out.f0 2
      obtain ⟨r0, r1, r2⟩ := hR.out.c0
      have x0 := hR.out.f0 0
      have x1 := hR.out.f0 1
      have x2 := hR.out.f0 2

      replace hP := Lib.hid (PS.chg hP.out ((Chg.refl [w.heap.size + 1] w4).setCell (p := ⟨w.heap.size + 1, 2, none⟩) (.inl (by simp)) (.slice A n cc)) (by have := hgl; simp; omega))
      replace hR := Lib.hid (WS.chg hR.out ((Chg.refl [w.heap.size + 1] w4).setCell (p := ⟨w.heap.size + 1, 2, none⟩) (.inl (by simp)) (.slice A n cc)) (by simp))
      replace hC := Lib.hid (hC.out.setCell (p := ⟨w.heap.size + 1, 2, none⟩) (.inr (Nat.le_succ _)) (.slice A n cc))
      replace hS := Lib.hid (Sl.chg hS.out ((Chg.refl [w.heap.size + 1] w4).setCell (p := ⟨w.heap.size + 1, 2, none⟩) (.inl (by simp)) (.slice A n cc)) (fun _ q hq hm => by have := hS0.out q hq; simp at hm; omega))
      replace hW : Hid (WS (w4.setCell ⟨w.heap.size + 1, 2, none⟩ (.slice A n cc)) (w.heap.size + 1) (.int .i64 i) (.int .i64 1) (.slice A n cc)) := Lib.hid (blk_set hW.out 2 (.slice A n cc))

      by_cases hjl : j = s.length
      · subst hjl
        have hE := Lib.hid (word_q_short hgo)
        clear hgo
        go_wp2_with fail
        go_quiet (fail)
        replace hP := Lib.hid (PS.chg hP.out ((Chg.refl [] _).drewN nq) (by simp))
        replace hW := Lib.hid (WS.chg hW.out ((Chg.refl [] _).drewN nq) (by simp))
        replace hR := Lib.hid (WS.chg hR.out ((Chg.refl [] _).drewN nq) (by simp))
        replace hC := Lib.hid (hC.out.drewN nq)
        replace hS := Lib.hid (Sl.chg hS.out ((Chg.refl [] _).drewN nq) (by simp))
        clear c0 c1 c2 c3 f1 d0 d1 d2 e0 e1 e2 r0 r1 r2 x0 x1 x2
        generalize World.drewN _ _ = w5 at hP hW hR hC hS ⊢

        obtain ⟨c0, c1, c2, c3⟩ := hP.out.c0
        have f1 := hP.out.f0 1
        obtain ⟨d0, d1, d2⟩ := hW.out.c0
        have e0 := hW.out.f0 0
        have e1 := hW.out.f0 1
        have e2 := hW.out.f0 2
        obtain ⟨r0, r1, r2⟩ := hR.out.c0
        have x0 := hR.out.f0 0
        have x1 := hR.out.f0 1
        have x2 := hR.out.f0 2

        go_wp2_with fail
        refine (fail_first w5 g B _ a0 i 5 hP.out).mono ?_
        rintro e w6 ⟨rfl, hP6, hC6⟩
        clear c0 c1 c2 c3 f1 d0 d1 d2 e0 e1 e2 r0 r1 r2 x0 x1 x2

        replace hW := Lib.hid (WS.chg hW.out hC6 (by have := hgl; simp; omega))
        replace hR := Lib.hid (WS.chg hR.out hC6 (by have := hgl; simp; omega))
        replace hC := Lib.hid (hC.out.trans hC6)

        replace hP : Hid (PS w6 g B s.length ((i : Nat) : Int) ((5 : Nat) : Int)) := Lib.hid (by rw [hsz] at hP6; exact hP6)
        have hq0 : Hid ((5 : Nat) ≠ 0) := Lib.hid (by decide)
        clear hP6 hC6 hS hS0 hn
        obtain ⟨c0, c1, c2, c3⟩ := hP.out.c0
        have f1 := hP.out.f0 1
        obtain ⟨d0, d1, d2⟩ := hW.out.c0
        have e0 := hW.out.f0 0
        have e1 := hW.out.f0 1
        have e2 := hW.out.f0 2
        obtain ⟨r0, r1, r2⟩ := hR.out.c0
        have x0 := hR.out.f0 0
        have x1 := hR.out.f0 1
        have x2 := hR.out.f0 2
        have hwr : IntKind.i64.wrap ((s.length : Int) + 1) = (s.length : Int) + 1 := IntWalk.i64_in _ (by omega)
        have hmn : (s.length : Int) < (s.length : Int) + 1 := by omega
        go_wp2_with fail
        go_still_tail 14, (by kernel_rfl)
        change wpList _ _ _ _ _ w6.drew
        replace hP := Lib.hid (PS.chg hP.out (Chg.refl [] w6).drew (by simp))
        replace hW := Lib.hid (WS.chg hW.out (Chg.refl [] w6).drew (by simp))
        replace hR := Lib.hid (WS.chg hR.out (Chg.refl [] w6).drew (by simp))
        replace hC := Lib.hid hC.out.drew
        clear c0 c1 c2 c3 f1 d0 d1 d2 e0 e1 e2 r0 r1 r2 x0 x1 x2
        generalize w6.drew = w7 at hP hW hR hC ⊢

        obtain ⟨c0, c1, c2, c3⟩ := hP.out.c0
        have f1 := hP.out.f0 1
        obtain ⟨d0, d1, d2⟩ := hW.out.c0
        have e0 := hW.out.f0 0
        have e1 := hW.out.f0 1
        have e2 := hW.out.f0 2
        obtain ⟨r0, r1, r2⟩ := hR.out.c0
        have x0 := hR.out.f0 0
        have x1 := hR.out.f0 1
        have x2 := hR.out.f0 2

        go_wp2_with fail
        have hcg7 : Chg [g] w7 (w7.setCell ⟨g, 1, none⟩ (.int .i64 s.length)) := (Chg.refl [g] _).setCell (.inl (by simp)) _

        replace hW := Lib.hid (WS.chg hW.out hcg7 (by have := hgl; simp; omega))
        replace hR := Lib.hid (WS.chg hR.out hcg7 (by have := hgl; simp; omega))
        replace hC := Lib.hid (hC.out.trans hcg7)

        replace hP := Lib.hid (PS.put hP.out (s.length : Int))
        clear c0 c1 c2 c3 f1 d0 d1 d2 e0 e1 e2 r0 r1 r2 x0 x1 x2

        obtain ⟨c0, c1, c2, c3⟩ := hP.out.c0
        have f1 := hP.out.f0 1
        obtain ⟨d0, d1, d2⟩ := hW.out.c0
        have e0 := hW.out.f0 0
        have e1 := hW.out.f0 1
        have e2 := hW.out.f0 2
        obtain ⟨r0, r1, r2⟩ := hR.out.c0
        have x0 := hR.out.f0 0
        have x1 := hR.out.f0 1
        have x2 := hR.out.f0 2
        have hdec : decide ((s.length : Int) < (s.length : Int)) = false := by simp

        go_wp2_with fail
        go_quiet (fail)
        replace hP := Lib.hid (PS.chg hP.out ((Chg.refl [] _).drewN nq) (by simp))
        replace hW := Lib.hid (WS.chg hW.out ((Chg.refl [] _).drewN nq) (by simp))
        replace hR := Lib.hid (WS.chg hR.out ((Chg.refl [] _).drewN nq) (by simp))
        replace hC := Lib.hid (hC.out.drewN nq)
        clear c0 c1 c2 c3 f1 d0 d1 d2 e0 e1 e2 r0 r1 r2 x0 x1 x2
        generalize World.drewN _ _ = w8 at hP hW hR hC ⊢

        obtain ⟨c0, c1, c2, c3⟩ := hP.out.c0
        have f1 := hP.out.f0 1
        obtain ⟨d0, d1, d2⟩ := hW.out.c0
        have e0 := hW.out.f0 0
        have e1 := hW.out.f0 1
        have e2 := hW.out.f0 2
        obtain ⟨r0, r1, r2⟩ := hR.out.c0
        have x0 := hR.out.f0 0
        have x1 := hR.out.f0 1
        have x2 := hR.out.f0 2

        go_wp2_with fail
        clear c0 c1 c2 c3 f1 d0 d1 d2 e0 e1 e2 r0 r1 r2 x0 x1 x2
        have hF := Lib.hid (show WS _ w.heap.size (.int .i64 i) (.int .i64 1) (.slice A n cc) from blk_set (blk_set (blk_set hR.out 0 (.int .i64 i)) 1 (.int .i64 1)) 2 (.slice A n cc))
        have h3 := fun (W : World) => ((((Chg.refl [w.heap.size] W).setCell (p := ⟨w.heap.size, 0, none⟩) (.inl (by simp)) (.int .i64 i)).setCell (p := ⟨w.heap.size, 1, none⟩) (.inl (by simp)) (.int .i64 1)).setCell (p := ⟨w.heap.size, 2, none⟩) (.inl (by simp)) (.slice A n cc))
        refine bodyPost_ret (v := .agg #[.int .i64 i, .int .i64 1, .slice A n cc]) ?_ rfl ⟨1, A, n, cc, rfl, ((hC.out.setCell (.inr (Nat.le_refl _)) _).setCell (.inr (Nat.le_refl _)) _).setCell (.inr (Nat.le_refl _)) _, ?_⟩
        · exact results_cell_row rfl _ _ _ 38 _ (0, 0) _ rfl hF.out Try.underlying38 rfl (by kernel_rfl)
        · exact .inr ⟨_, _, hE.out, PS.chg hP.out (h3 _) (by have := hgl; simp; omega), hq0.out⟩

      · have hne : ((j : Int) == (s.length : Int)) = false := by rw [beq_eq_false_iff_ne]; omega
        go_wp2_with fail
        go_quiet (fail)
        replace hP := Lib.hid (PS.chg hP.out ((Chg.refl [] _).drewN nq) (by simp))
        replace hW := Lib.hid (WS.chg hW.out ((Chg.refl [] _).drewN nq) (by simp))
        replace hR := Lib.hid (WS.chg hR.out ((Chg.refl [] _).drewN nq) (by simp))
        replace hC := Lib.hid (hC.out.drewN nq)
        replace hS := Lib.hid (Sl.chg hS.out ((Chg.refl [] _).drewN nq) (by simp))
        clear c0 c1 c2 c3 f1 d0 d1 d2 e0 e1 e2 r0 r1 r2 x0 x1 x2
        generalize World.drewN _ _ = w5 at hP hW hR hC hS ⊢

        obtain ⟨c0, c1, c2, c3⟩ := hP.out.c0
        have f1 := hP.out.f0 1
        obtain ⟨d0, d1, d2⟩ := hW.out.c0
        have e0 := hW.out.f0 0
        have e1 := hW.out.f0 1
        have e2 := hW.out.f0 2
        obtain ⟨r0, r1, r2⟩ := hR.out.c0
        have x0 := hR.out.f0 0
        have x1 := hR.out.f0 1
        have x2 := hR.out.f0 2
        have hwr : IntKind.i64.wrap ((j : Int) + 1) = (j : Int) + 1 := IntWalk.i64_in _ (by omega)
        have hmn : ¬ (s.length : Int) < (j : Int) + 1 := by omega
        go_wp2_with fail
        go_still_tail 14, (by kernel_rfl)
        change wpList _ _ _ _ _ w5.drew
        replace hP := Lib.hid (PS.chg hP.out (Chg.refl [] w5).drew (by simp))
        replace hW := Lib.hid (WS.chg hW.out (Chg.refl [] w5).drew (by simp))
        replace hR := Lib.hid (WS.chg hR.out (Chg.refl [] w5).drew (by simp))
        replace hC := Lib.hid hC.out.drew
        replace hS := Lib.hid (Sl.chg hS.out (Chg.refl [] w5).drew (by simp))
        clear c0 c1 c2 c3 f1 d0 d1 d2 e0 e1 e2 r0 r1 r2 x0 x1 x2
        generalize w5.drew = w7 at hP hW hR hC hS ⊢

        obtain ⟨c0, c1, c2, c3⟩ := hP.out.c0
        have f1 := hP.out.f0 1
        obtain ⟨d0, d1, d2⟩ := hW.out.c0
        have e0 := hW.out.f0 0
        have e1 := hW.out.f0 1
        have e2 := hW.out.f0 2
        obtain ⟨r0, r1, r2⟩ := hR.out.c0
        have x0 := hR.out.f0 0
        have x1 := hR.out.f0 1
        have x2 := hR.out.f0 2

        go_wp2_with fail
        have hcg7 : Chg [g] w7 (w7.setCell ⟨g, 1, none⟩ (.int .i64 ((j : Int) + 1))) := (Chg.refl [g] _).setCell (.inl (by simp)) _

        replace hW := Lib.hid (WS.chg hW.out hcg7 (by have := hgl; simp; omega))
        replace hR := Lib.hid (WS.chg hR.out hcg7 (by have := hgl; simp; omega))
        replace hC := Lib.hid (hC.out.trans hcg7)

        replace hS := Lib.hid (Sl.chg hS.out hcg7 (fun _ q hq hm => by have := hS0.out q hq; have := hgl; simp at hm; omega))
        replace hP : Hid (PS (w7.setCell ⟨g, 1, none⟩ (.int .i64 ((j : Int) + 1))) g B ((j + 1 : Nat) : Int) a0 0) := Lib.hid (PS.put hP.out ((j : Int) + 1))
        clear c0 c1 c2 c3 f1 d0 d1 d2 e0 e1 e2 r0 r1 r2 x0 x1 x2
        have hqo : ∀ (hb : behind s (j + 1) = .ok ()), word s i 34 = .ok (⟨i, 1, r⟩, j + 1) := word_q_ok hgo hjl
        have hqb : ∀ {b} (hb : behind s (j + 1) = .error b), word s i 34 = .error b := word_q_bad hgo hjl
        clear hcg7 hwr hmn
        generalize w7.setCell ⟨g, 1, none⟩ (.int .i64 ((j : Int) + 1)) = w9 at hP hW hR hC hS ⊢
        obtain ⟨jj, hjj⟩ : ∃ jj, jj = j + 1 := ⟨_, rfl⟩
        have hjx : jj ≤ s.length := by omega
        rw [← hjj] at hP hqo hqb
        clear hne hjl hgo hjb
        clear hjj

        obtain ⟨c0, c1, c2, c3⟩ := hP.out.c0
        have f1 := hP.out.f0 1
        obtain ⟨d0, d1, d2⟩ := hW.out.c0
        have e0 := hW.out.f0 0
        have e1 := hW.out.f0 1
        have e2 := hW.out.f0 2
        obtain ⟨r0, r1, r2⟩ := hR.out.c0
        have x0 := hR.out.f0 0
        have x1 := hR.out.f0 1
        have x2 := hR.out.f0 2
        by_cases hlj : jj < s.length
        · have hljB : jj < B.size := by omega
          obtain ⟨cj, hcj⟩ : ∃ cj, B[jj]'hljB = cj := ⟨_, rfl⟩
          have hsj : s[jj]? = some cj := by rw [hby.out _ hljB, hcj]
          cases hst2 : stopB cj with
          | true =>
            have hE := Lib.hid (hqo (behind_ok hsj hst2))
            have hin := Lib.hid (fun W => in_any ⟨#[32, 9, 10, 59]⟩ cj true (in_stops cj true hst2) W)
            go_wp2_with fail
            go_quiet ((go_at_call 40; exact (hin.out _).mono (fun e w' h => ⟨h.1, _, h.2.symm⟩)))
            replace hP := Lib.hid (PS.chg hP.out ((Chg.refl [] _).drewN nq) (by simp))
            replace hW := Lib.hid (WS.chg hW.out ((Chg.refl [] _).drewN nq) (by simp))
            replace hR := Lib.hid (WS.chg hR.out ((Chg.refl [] _).drewN nq) (by simp))
            replace hC := Lib.hid (hC.out.drewN nq)
            replace hS := Lib.hid (Sl.chg hS.out ((Chg.refl [] _).drewN nq) (by simp))
            clear c0 c1 c2 c3 f1 d0 d1 d2 e0 e1 e2 r0 r1 r2 x0 x1 x2
            generalize World.drewN _ _ = w8 at hP hW hR hC hS ⊢

            obtain ⟨c0, c1, c2, c3⟩ := hP.out.c0
            have f1 := hP.out.f0 1
            obtain ⟨d0, d1, d2⟩ := hW.out.c0
            have e0 := hW.out.f0 0
            have e1 := hW.out.f0 1
            have e2 := hW.out.f0 2
            obtain ⟨r0, r1, r2⟩ := hR.out.c0
            have x0 := hR.out.f0 0
            have x1 := hR.out.f0 1
            have x2 := hR.out.f0 2
            go_wp2_with fail
            clear c0 c1 c2 c3 f1 d0 d1 d2 e0 e1 e2 r0 r1 r2 x0 x1 x2
            have hF := Lib.hid (show WS _ w.heap.size (.int .i64 i) (.int .i64 1) (.slice A n cc) from blk_set (blk_set (blk_set hR.out 0 (.int .i64 i)) 1 (.int .i64 1)) 2 (.slice A n cc))
            have h3 := fun (W : World) => ((((Chg.refl [w.heap.size] W).setCell (p := ⟨w.heap.size, 0, none⟩) (.inl (by simp)) (.int .i64 i)).setCell (p := ⟨w.heap.size, 1, none⟩) (.inl (by simp)) (.int .i64 1)).setCell (p := ⟨w.heap.size, 2, none⟩) (.inl (by simp)) (.slice A n cc))
            refine bodyPost_ret (v := .agg #[.int .i64 i, .int .i64 1, .slice A n cc]) ?_ rfl ⟨1, A, n, cc, rfl, ((hC.out.setCell (.inr (Nat.le_refl _)) _).setCell (.inr (Nat.le_refl _)) _).setCell (.inr (Nat.le_refl _)) _, ?_⟩
            · exact results_cell_row rfl _ _ _ 38 _ (0, 0) _ rfl hF.out Try.underlying38 rfl (by kernel_rfl)
            · exact .inl ⟨_, _, hE.out, PS.chg hP.out (h3 _) (by have := hgl; simp; omega), rfl, rfl, hn.out, hS.out.chg (h3 _) (fun _ q hq hm => by have := hS0.out q hq; simp at hm; omega), fun q hq => by have := hS0.out q hq; omega⟩
          | false =>
            have hE := Lib.hid (hqb (behind_bad hsj hst2))
            have hin := Lib.hid (fun W => in_any ⟨#[32, 9, 10, 59]⟩ cj false (in_stops cj false hst2) W)
            have hq0 : Hid ((4 : Nat) ≠ 0) := Lib.hid (by decide)
            go_wp2_with fail
            go_quiet ((go_at_call 40; exact (hin.out _).mono (fun e w' h => ⟨h.1, _, h.2.symm⟩)))
            replace hP := Lib.hid (PS.chg hP.out ((Chg.refl [] _).drewN nq) (by simp))
            replace hW := Lib.hid (WS.chg hW.out ((Chg.refl [] _).drewN nq) (by simp))
            replace hR := Lib.hid (WS.chg hR.out ((Chg.refl [] _).drewN nq) (by simp))
            replace hC := Lib.hid (hC.out.drewN nq)
            replace hS := Lib.hid (Sl.chg hS.out ((Chg.refl [] _).drewN nq) (by simp))
            clear c0 c1 c2 c3 f1 d0 d1 d2 e0 e1 e2 r0 r1 r2 x0 x1 x2
            generalize World.drewN _ _ = w8 at hP hW hR hC hS ⊢

            obtain ⟨c0, c1, c2, c3⟩ := hP.out.c0
            have f1 := hP.out.f0 1
            obtain ⟨d0, d1, d2⟩ := hW.out.c0
            have e0 := hW.out.f0 0
            have e1 := hW.out.f0 1
            have e2 := hW.out.f0 2
            obtain ⟨r0, r1, r2⟩ := hR.out.c0
            have x0 := hR.out.f0 0
            have x1 := hR.out.f0 1
            have x2 := hR.out.f0 2
            go_wp2_with fail
            refine (fail_first w8 g B _ a0 (jj : Nat) 4 hP.out).mono ?_
            rintro e w9 ⟨rfl, hP9, hC9⟩
            clear c0 c1 c2 c3 f1 d0 d1 d2 e0 e1 e2 r0 r1 r2 x0 x1 x2

            replace hW := Lib.hid (WS.chg hW.out hC9 (by have := hgl; simp; omega))
            replace hR := Lib.hid (WS.chg hR.out hC9 (by have := hgl; simp; omega))
            replace hC := Lib.hid (hC.out.trans hC9)

            replace hP : Hid (PS w9 g B s.length ((jj : Nat) : Int) ((4 : Nat) : Int)) := Lib.hid (by rw [hsz] at hP9; exact hP9)
            clear hP9 hC9

            obtain ⟨c0, c1, c2, c3⟩ := hP.out.c0
            have f1 := hP.out.f0 1
            obtain ⟨d0, d1, d2⟩ := hW.out.c0
            have e0 := hW.out.f0 0
            have e1 := hW.out.f0 1
            have e2 := hW.out.f0 2
            obtain ⟨r0, r1, r2⟩ := hR.out.c0
            have x0 := hR.out.f0 0
            have x1 := hR.out.f0 1
            have x2 := hR.out.f0 2
            go_wp2_with fail
            clear c0 c1 c2 c3 f1 d0 d1 d2 e0 e1 e2 r0 r1 r2 x0 x1 x2
            have hF := Lib.hid (show WS _ w.heap.size (.int .i64 i) (.int .i64 1) (.slice A n cc) from blk_set (blk_set (blk_set hR.out 0 (.int .i64 i)) 1 (.int .i64 1)) 2 (.slice A n cc))
            have h3 := fun (W : World) => ((((Chg.refl [w.heap.size] W).setCell (p := ⟨w.heap.size, 0, none⟩) (.inl (by simp)) (.int .i64 i)).setCell (p := ⟨w.heap.size, 1, none⟩) (.inl (by simp)) (.int .i64 1)).setCell (p := ⟨w.heap.size, 2, none⟩) (.inl (by simp)) (.slice A n cc))
            refine bodyPost_ret (v := .agg #[.int .i64 i, .int .i64 1, .slice A n cc]) ?_ rfl ⟨1, A, n, cc, rfl, ((hC.out.setCell (.inr (Nat.le_refl _)) _).setCell (.inr (Nat.le_refl _)) _).setCell (.inr (Nat.le_refl _)) _, ?_⟩
            · exact results_cell_row rfl _ _ _ 38 _ (0, 0) _ rfl hF.out Try.underlying38 rfl (by kernel_rfl)
            · exact .inr ⟨_, _, hE.out, PS.chg hP.out (h3 _) (by have := hgl; simp; omega), hq0.out⟩
        · have hE := Lib.hid (hqo (behind_none (by omega)))
          have hdec : decide (((jj : Nat) : Int) < (s.length : Int)) = false := by simp; omega
          have hdec2 : decide (jj < s.length) = false := by simp; omega
          go_wp2_with fail
          go_quiet (fail)
          replace hP := Lib.hid (PS.chg hP.out ((Chg.refl [] _).drewN nq) (by simp))
          replace hW := Lib.hid (WS.chg hW.out ((Chg.refl [] _).drewN nq) (by simp))
          replace hR := Lib.hid (WS.chg hR.out ((Chg.refl [] _).drewN nq) (by simp))
          replace hC := Lib.hid (hC.out.drewN nq)
          replace hS := Lib.hid (Sl.chg hS.out ((Chg.refl [] _).drewN nq) (by simp))
          clear c0 c1 c2 c3 f1 d0 d1 d2 e0 e1 e2 r0 r1 r2 x0 x1 x2
          generalize World.drewN _ _ = w8 at hP hW hR hC hS ⊢

          obtain ⟨c0, c1, c2, c3⟩ := hP.out.c0
          have f1 := hP.out.f0 1
          obtain ⟨d0, d1, d2⟩ := hW.out.c0
          have e0 := hW.out.f0 0
          have e1 := hW.out.f0 1
          have e2 := hW.out.f0 2
          obtain ⟨r0, r1, r2⟩ := hR.out.c0
          have x0 := hR.out.f0 0
          have x1 := hR.out.f0 1
          have x2 := hR.out.f0 2
          go_wp2_with fail
          clear c0 c1 c2 c3 f1 d0 d1 d2 e0 e1 e2 r0 r1 r2 x0 x1 x2
          have hF := Lib.hid (show WS _ w.heap.size (.int .i64 i) (.int .i64 1) (.slice A n cc) from blk_set (blk_set (blk_set hR.out 0 (.int .i64 i)) 1 (.int .i64 1)) 2 (.slice A n cc))
          have h3 := fun (W : World) => ((((Chg.refl [w.heap.size] W).setCell (p := ⟨w.heap.size, 0, none⟩) (.inl (by simp)) (.int .i64 i)).setCell (p := ⟨w.heap.size, 1, none⟩) (.inl (by simp)) (.int .i64 1)).setCell (p := ⟨w.heap.size, 2, none⟩) (.inl (by simp)) (.slice A n cc))
          refine bodyPost_ret (v := .agg #[.int .i64 i, .int .i64 1, .slice A n cc]) ?_ rfl ⟨1, A, n, cc, rfl, ((hC.out.setCell (.inr (Nat.le_refl _)) _).setCell (.inr (Nat.le_refl _)) _).setCell (.inr (Nat.le_refl _)) _, ?_⟩
          · exact results_cell_row rfl _ _ _ 38 _ (0, 0) _ rfl hF.out Try.underlying38 rfl (by kernel_rfl)
          · exact .inl ⟨_, _, hE.out, PS.chg hP.out (h3 _) (by have := hgl; simp; omega), rfl, rfl, hn.out, hS.out.chg (h3 _) (fun _ q hq hm => by have := hS0.out q hq; simp at hm; omega), fun q hq => by have := hS0.out q hq; omega⟩

    · have hE := Lib.hid (word_q_err hgo)
      rw [hB] at hP4
      replace hP := Lib.hid hP4
      replace hq0 := Lib.hid hq0
      clear hP4 hgo hC4 hcg
      obtain ⟨c0, c1, c2, c3⟩ := hP.out.c0
      have f1 := hP.out.f0 1
      obtain ⟨d0, d1, d2⟩ := hW.out.c0
      have e0 := hW.out.f0 0
      have e1 := hW.out.f0 1
      have e2 := hW.out.f0 2
      obtain ⟨r0, r1, r2⟩ := hR.out.c0
      have x0 := hR.out.f0 0
      have x1 := hR.out.f0 1
      have x2 := hR.out.f0 2

      replace hP := Lib.hid (PS.chg hP.out ((Chg.refl [w.heap.size + 1] w4).setCell (p := ⟨w.heap.size + 1, 2, none⟩) (.inl (by simp)) (.slice A n cc)) (by have := hgl; simp; omega))
      replace hR := Lib.hid (WS.chg hR.out ((Chg.refl [w.heap.size + 1] w4).setCell (p := ⟨w.heap.size + 1, 2, none⟩) (.inl (by simp)) (.slice A n cc)) (by simp))
      replace hC := Lib.hid (hC.out.setCell (p := ⟨w.heap.size + 1, 2, none⟩) (.inr (Nat.le_succ _)) (.slice A n cc))
      replace hW : Hid (WS (w4.setCell ⟨w.heap.size + 1, 2, none⟩ (.slice A n cc)) (w.heap.size + 1) (.int .i64 i) (.int .i64 1) (.slice A n cc)) := Lib.hid (blk_set hW.out 2 (.slice A n cc))
      go_wp2_with fail
      go_quiet (fail)
      replace hP := Lib.hid (PS.chg hP.out ((Chg.refl [] _).drewN nq) (by simp))
      replace hW := Lib.hid (WS.chg hW.out ((Chg.refl [] _).drewN nq) (by simp))
      replace hR := Lib.hid (WS.chg hR.out ((Chg.refl [] _).drewN nq) (by simp))
      replace hC := Lib.hid (hC.out.drewN nq)
      clear c0 c1 c2 c3 f1 d0 d1 d2 e0 e1 e2 r0 r1 r2 x0 x1 x2
      generalize World.drewN _ _ = w5 at hP hW hR hC ⊢

      obtain ⟨c0, c1, c2, c3⟩ := hP.out.c0
      have f1 := hP.out.f0 1
      obtain ⟨d0, d1, d2⟩ := hW.out.c0
      have e0 := hW.out.f0 0
      have e1 := hW.out.f0 1
      have e2 := hW.out.f0 2
      obtain ⟨r0, r1, r2⟩ := hR.out.c0
      have x0 := hR.out.f0 0
      have x1 := hR.out.f0 1
      have x2 := hR.out.f0 2

      go_wp2_with fail
      refine (fail_again w5 g B _ _ _ i 5 (by have := hq0.out; omega) hP.out).mono ?_
      rintro e w6 ⟨rfl, hP6, hC6⟩
      clear c0 c1 c2 c3 f1 d0 d1 d2 e0 e1 e2 r0 r1 r2 x0 x1 x2

      replace hW := Lib.hid (WS.chg hW.out hC6 (by have := hgl; simp; omega))
      replace hR := Lib.hid (WS.chg hR.out hC6 (by have := hgl; simp; omega))
      replace hC := Lib.hid (hC.out.trans hC6)

      replace hP : Hid (PS w6 g B s.length ((p : Nat) : Int) ((q : Nat) : Int)) := Lib.hid (by rw [hsz] at hP6; exact hP6)
      clear hP6 hC6
      obtain ⟨c0, c1, c2, c3⟩ := hP.out.c0
      have f1 := hP.out.f0 1
      obtain ⟨d0, d1, d2⟩ := hW.out.c0
      have e0 := hW.out.f0 0
      have e1 := hW.out.f0 1
      have e2 := hW.out.f0 2
      obtain ⟨r0, r1, r2⟩ := hR.out.c0
      have x0 := hR.out.f0 0
      have x1 := hR.out.f0 1
      have x2 := hR.out.f0 2
      have hwr : IntKind.i64.wrap ((s.length : Int) + 1) = (s.length : Int) + 1 := IntWalk.i64_in _ (by omega)
      have hmn : (s.length : Int) < (s.length : Int) + 1 := by omega
      go_wp2_with fail
      go_still_tail 14, (by kernel_rfl)
      change wpList _ _ _ _ _ w6.drew
      replace hP := Lib.hid (PS.chg hP.out (Chg.refl [] w6).drew (by simp))
      replace hW := Lib.hid (WS.chg hW.out (Chg.refl [] w6).drew (by simp))
      replace hR := Lib.hid (WS.chg hR.out (Chg.refl [] w6).drew (by simp))
      replace hC := Lib.hid hC.out.drew
      clear c0 c1 c2 c3 f1 d0 d1 d2 e0 e1 e2 r0 r1 r2 x0 x1 x2
      generalize w6.drew = w7 at hP hW hR hC ⊢

      obtain ⟨c0, c1, c2, c3⟩ := hP.out.c0
      have f1 := hP.out.f0 1
      obtain ⟨d0, d1, d2⟩ := hW.out.c0
      have e0 := hW.out.f0 0
      have e1 := hW.out.f0 1
      have e2 := hW.out.f0 2
      obtain ⟨r0, r1, r2⟩ := hR.out.c0
      have x0 := hR.out.f0 0
      have x1 := hR.out.f0 1
      have x2 := hR.out.f0 2

      go_wp2_with fail
      have hcg7 : Chg [g] w7 (w7.setCell ⟨g, 1, none⟩ (.int .i64 s.length)) := (Chg.refl [g] _).setCell (.inl (by simp)) _

      replace hW := Lib.hid (WS.chg hW.out hcg7 (by have := hgl; simp; omega))
      replace hR := Lib.hid (WS.chg hR.out hcg7 (by have := hgl; simp; omega))
      replace hC := Lib.hid (hC.out.trans hcg7)

      replace hP := Lib.hid (PS.put hP.out (s.length : Int))
      clear c0 c1 c2 c3 f1 d0 d1 d2 e0 e1 e2 r0 r1 r2 x0 x1 x2

      obtain ⟨c0, c1, c2, c3⟩ := hP.out.c0
      have f1 := hP.out.f0 1
      obtain ⟨d0, d1, d2⟩ := hW.out.c0
      have e0 := hW.out.f0 0
      have e1 := hW.out.f0 1
      have e2 := hW.out.f0 2
      obtain ⟨r0, r1, r2⟩ := hR.out.c0
      have x0 := hR.out.f0 0
      have x1 := hR.out.f0 1
      have x2 := hR.out.f0 2
      have hdec : decide ((s.length : Int) < (s.length : Int)) = false := by simp

      go_wp2_with fail
      go_quiet (fail)
      replace hP := Lib.hid (PS.chg hP.out ((Chg.refl [] _).drewN nq) (by simp))
      replace hW := Lib.hid (WS.chg hW.out ((Chg.refl [] _).drewN nq) (by simp))
      replace hR := Lib.hid (WS.chg hR.out ((Chg.refl [] _).drewN nq) (by simp))
      replace hC := Lib.hid (hC.out.drewN nq)
      clear c0 c1 c2 c3 f1 d0 d1 d2 e0 e1 e2 r0 r1 r2 x0 x1 x2
      generalize World.drewN _ _ = w8 at hP hW hR hC ⊢

      obtain ⟨c0, c1, c2, c3⟩ := hP.out.c0
      have f1 := hP.out.f0 1
      obtain ⟨d0, d1, d2⟩ := hW.out.c0
      have e0 := hW.out.f0 0
      have e1 := hW.out.f0 1
      have e2 := hW.out.f0 2
      obtain ⟨r0, r1, r2⟩ := hR.out.c0
      have x0 := hR.out.f0 0
      have x1 := hR.out.f0 1
      have x2 := hR.out.f0 2

      go_wp2_with fail
      clear c0 c1 c2 c3 f1 d0 d1 d2 e0 e1 e2 r0 r1 r2 x0 x1 x2
      have hF := Lib.hid (show WS _ w.heap.size (.int .i64 i) (.int .i64 1) (.slice A n cc) from blk_set (blk_set (blk_set hR.out 0 (.int .i64 i)) 1 (.int .i64 1)) 2 (.slice A n cc))
      have h3 := fun (W : World) => ((((Chg.refl [w.heap.size] W).setCell (p := ⟨w.heap.size, 0, none⟩) (.inl (by simp)) (.int .i64 i)).setCell (p := ⟨w.heap.size, 1, none⟩) (.inl (by simp)) (.int .i64 1)).setCell (p := ⟨w.heap.size, 2, none⟩) (.inl (by simp)) (.slice A n cc))
      refine bodyPost_ret (v := .agg #[.int .i64 i, .int .i64 1, .slice A n cc]) ?_ rfl ⟨1, A, n, cc, rfl, ((hC.out.setCell (.inr (Nat.le_refl _)) _).setCell (.inr (Nat.le_refl _)) _).setCell (.inr (Nat.le_refl _)) _, ?_⟩
      · exact results_cell_row rfl _ _ _ 38 _ (0, 0) _ rfl hF.out Try.underlying38 rfl (by kernel_rfl)
      · exact .inr ⟨_, _, hE.out, PS.chg hP.out (h3 _) (by have := hgl; simp; omega), hq0.out⟩

  have b2 := u8n (n := 34) q2
  go_wp2_with fail
  refine (hpb.out w2 hP.out).mono ?_
  rintro e w3 ⟨A, n, cc, rfl, hC3, hcase⟩
  clear c0 c1 c2 c3 f1 d0 d1 d2 e0 e1 e2 r0 r1 r2 x0 x1 x2

  replace hW := Lib.hid (WS.chg hW.out hC3 (by have := hgl; simp; omega))
  replace hR := Lib.hid (WS.chg hR.out hC3 (by have := hgl; simp; omega))
  replace hC := Lib.hid (hC.out.trans hC3)

  rcases hcase with ⟨r, j, hgo, hP3, hn, hS, hbk⟩ | ⟨p, q, hgo, hP3, hq0⟩
  · have hE := Lib.hid (word_bare_ok q1 q2 hgo)
    rw [hB] at hP3
    replace hP := Lib.hid hP3
    replace hn := Lib.hid hn
    have hS0 : Hid (∀ q, (Value.slice A n cc).ownBlock = some q → w.heap.size + 2 ≤ q) := fun q hq => Nat.le_trans hB2.out (hbk q hq)
    replace hS := Lib.hid hS
    clear hP3 hgo hC3 hbk q1 q2
    obtain ⟨c0, c1, c2, c3⟩ := hP.out.c0
    have f1 := hP.out.f0 1
    obtain ⟨d0, d1, d2⟩ := hW.out.c0
    have e0 := hW.out.f0 0
    have e1 := hW.out.f0 1
    have e2 := hW.out.f0 2
    obtain ⟨r0, r1, r2⟩ := hR.out.c0
    have x0 := hR.out.f0 0
    have x1 := hR.out.f0 1
    have x2 := hR.out.f0 2
    replace hP := Lib.hid (PS.chg hP.out ((Chg.refl [w.heap.size + 1] w3).setCell (p := ⟨w.heap.size + 1, 2, none⟩) (.inl (by simp)) (.slice A n cc)) (by have := hgl; simp; omega))
    replace hR := Lib.hid (WS.chg hR.out ((Chg.refl [w.heap.size + 1] w3).setCell (p := ⟨w.heap.size + 1, 2, none⟩) (.inl (by simp)) (.slice A n cc)) (by simp))
    replace hC := Lib.hid (hC.out.setCell (p := ⟨w.heap.size + 1, 2, none⟩) (.inr (Nat.le_succ _)) (.slice A n cc))
    replace hS := Lib.hid (Sl.chg hS.out ((Chg.refl [w.heap.size + 1] w3).setCell (p := ⟨w.heap.size + 1, 2, none⟩) (.inl (by simp)) (.slice A n cc)) (fun _ q hq hm => by have := hS0.out q hq; simp at hm; omega))
    replace hW : Hid (WS (w3.setCell ⟨w.heap.size + 1, 2, none⟩ (.slice A n cc)) (w.heap.size + 1) (.int .i64 i) (.int .i64 0) (.slice A n cc)) := Lib.hid (blk_set hW.out 2 (.slice A n cc))
    go_wp2_with fail
    clear c0 c1 c2 c3 f1 d0 d1 d2 e0 e1 e2 r0 r1 r2 x0 x1 x2
    have hF := Lib.hid (show WS _ w.heap.size (.int .i64 i) (.int .i64 0) (.slice A n cc) from blk_set (blk_set (blk_set hR.out 0 (.int .i64 i)) 1 (.int .i64 0)) 2 (.slice A n cc))
    have h3 := fun (W : World) => ((((Chg.refl [w.heap.size] W).setCell (p := ⟨w.heap.size, 0, none⟩) (.inl (by simp)) (.int .i64 i)).setCell (p := ⟨w.heap.size, 1, none⟩) (.inl (by simp)) (.int .i64 0)).setCell (p := ⟨w.heap.size, 2, none⟩) (.inl (by simp)) (.slice A n cc))
    refine bodyPost_ret (v := .agg #[.int .i64 i, .int .i64 0, .slice A n cc]) ?_ rfl ⟨0, A, n, cc, rfl, ((hC.out.setCell (.inr (Nat.le_refl _)) _).setCell (.inr (Nat.le_refl _)) _).setCell (.inr (Nat.le_refl _)) _, ?_⟩
    · exact results_cell_row rfl _ _ _ 38 _ (0, 0) _ rfl hF.out Try.underlying38 rfl (by kernel_rfl)
    · exact .inl ⟨_, _, hE.out, PS.chg hP.out (h3 _) (by have := hgl; simp; omega), rfl, rfl, hn.out, hS.out.chg (h3 _) (fun _ q hq hm => by have := hS0.out q hq; simp at hm; omega), fun q hq => by have := hS0.out q hq; omega⟩

  · have hE := Lib.hid (word_bare_err q1 q2 hgo)
    rw [hB] at hP3
    replace hP := Lib.hid hP3
    replace hq0 := Lib.hid hq0
    clear hP3 hgo hC3 q1 q2
    obtain ⟨c0, c1, c2, c3⟩ := hP.out.c0
    have f1 := hP.out.f0 1
    obtain ⟨d0, d1, d2⟩ := hW.out.c0
    have e0 := hW.out.f0 0
    have e1 := hW.out.f0 1
    have e2 := hW.out.f0 2
    obtain ⟨r0, r1, r2⟩ := hR.out.c0
    have x0 := hR.out.f0 0
    have x1 := hR.out.f0 1
    have x2 := hR.out.f0 2
    replace hP := Lib.hid (PS.chg hP.out ((Chg.refl [w.heap.size + 1] w3).setCell (p := ⟨w.heap.size + 1, 2, none⟩) (.inl (by simp)) (.slice A n cc)) (by have := hgl; simp; omega))
    replace hR := Lib.hid (WS.chg hR.out ((Chg.refl [w.heap.size + 1] w3).setCell (p := ⟨w.heap.size + 1, 2, none⟩) (.inl (by simp)) (.slice A n cc)) (by simp))
    replace hC := Lib.hid (hC.out.setCell (p := ⟨w.heap.size + 1, 2, none⟩) (.inr (Nat.le_succ _)) (.slice A n cc))
    replace hW : Hid (WS (w3.setCell ⟨w.heap.size + 1, 2, none⟩ (.slice A n cc)) (w.heap.size + 1) (.int .i64 i) (.int .i64 0) (.slice A n cc)) := Lib.hid (blk_set hW.out 2 (.slice A n cc))
    go_wp2_with fail
    clear c0 c1 c2 c3 f1 d0 d1 d2 e0 e1 e2 r0 r1 r2 x0 x1 x2
    have hF := Lib.hid (show WS _ w.heap.size (.int .i64 i) (.int .i64 0) (.slice A n cc) from blk_set (blk_set (blk_set hR.out 0 (.int .i64 i)) 1 (.int .i64 0)) 2 (.slice A n cc))
    have h3 := fun (W : World) => ((((Chg.refl [w.heap.size] W).setCell (p := ⟨w.heap.size, 0, none⟩) (.inl (by simp)) (.int .i64 i)).setCell (p := ⟨w.heap.size, 1, none⟩) (.inl (by simp)) (.int .i64 0)).setCell (p := ⟨w.heap.size, 2, none⟩) (.inl (by simp)) (.slice A n cc))
    refine bodyPost_ret (v := .agg #[.int .i64 i, .int .i64 0, .slice A n cc]) ?_ rfl ⟨0, A, n, cc, rfl, ((hC.out.setCell (.inr (Nat.le_refl _)) _).setCell (.inr (Nat.le_refl _)) _).setCell (.inr (Nat.le_refl _)) _, ?_⟩
    · exact results_cell_row rfl _ _ _ 38 _ (0, 0) _ rfl hF.out Try.underlying38 rfl (by kernel_rfl)
    · exact .inr ⟨_, _, hE.out, PS.chg hP.out (h3 _) (by have := hgl; simp; omega), hq0.out⟩
end Go.Proofs.Ytakcolililbkjaa
