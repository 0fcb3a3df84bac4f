/- Contract of package tcl's command. Conditions: as it states. -/
import Derived.Test.YtakcolililbkjaaTclCmds
set_option linter.unusedVariables false
set_option linter.unusedSimpArgs false
namespace Go.Proofs.Ytakcolililbkjaa
open Go.RowKit Tcl
theorem Try.info_word : (Try.prog.info? 38).map (fun i => (i.zero, i.size, i.bytes)) = some (some (.agg #[.int .i64 0, .int .i64 0, .slice none 0 0]), 3, 40) := by kernel_rfl
/-- What `command` tells. -/
def CmEnd (w : World) (g : Nat) (s : List UInt8) (i0 : Nat) (a0 : Int) (e : Ending) (w' : World) : Prop :=
  ∃ (A : Option Addr) (n cc : Nat), e = .returned (.agg #[.int .i64 i0, .slice A n cc]) ∧ Chg [g] w w' ∧
    ((∃ ws j ys, command s i0 [] = .ok (ws, j) ∧ PS w' g (bstr s) j a0 0 ∧ n = ws.length ∧ Sl w' 3 (.slice A n cc) n ys ∧ WordsAt w' w.heap.size (Value.slice A n cc).ownBlock ys ws ∧ ∀ q, (Value.slice A n cc).ownBlock = some q → w.heap.size ≤ q)
    ∨ (∃ p q : Nat, command s i0 [] = .error (p, q) ∧ PS w' g (bstr s) s.length p q ∧ q ≠ 0))
/-- What holds behind a word. -/
theorem cm_word {w w6 w3 : World} {g : Nat} {s : List UInt8} {B : ByteArray} {i0 : Nat} {a0 : Int} {i : Nat} {c : UInt8} {A A2 : Option Addr} {n cc n2 c2 : Nat} {xs : List Value} {ws : List Word} {k : Int} {x0 x1 v0 v1 : Value}
    (hsc : s[i]? = some c) (hstp : stopB c = false) (hst2 : command s i0 [] = match word s i c with | .error b => .error b | .ok (w, j) => if i < j then command s j (ws ++ [w]) else .error (0, 0))
    (hX : WordsAt w6 (w.heap.size + 2) (Value.slice A n cc).ownBlock xs ws) (hO : w6.ownsRow w.heap.size 38 3 (.slice A n cc) n xs) (hR : CS w6 w.heap.size x0 x1) (hV : CS w6 (w.heap.size + 1) v0 v1) (hgl : g < w.heap.size) (hC : Chg [g] w w6) (hlen : ws.length = n) (hni : n ≤ i)
    (hP : PS w6 g B i a0 0) (hC3 : Chg [g] w6 w3) (hcase : (∃ wd j, word s i c = .ok (wd, j) ∧ PS w3 g B j a0 0 ∧ wd.at_ = i ∧ k = wd.kind ∧ n2 = wd.parts.length ∧ PartsAt w3 (.slice A2 n2 c2) wd.parts ∧ ∀ q, (Value.slice A2 n2 c2).ownBlock = some q → w6.heap.size ≤ q)
      ∨ (∃ p q : Nat, word s i c = .error (p, q) ∧ PS w3 g B s.length p q ∧ q ≠ 0)) :
    ∃ gk, CmMid w w3 g s B i0 a0 (Value.slice A n cc).ownBlock xs n [.int .i64 i, .int .i64 k, .slice A2 n2 c2] gk ∧ gk < s.length - i ∧ CS w3 w.heap.size x0 x1 ∧ CS w3 (w.heap.size + 1) v0 v1 ∧ w3.ownsRow w.heap.size 38 3 (.slice A n cc) n xs ∧ Chg [g] w w3 := by
  have hil := lt_of_some hsc
  have h1 : ∀ q, (Value.slice A n cc).ownBlock = some q → q ∉ [g] := fun q hq hm => by have := (hO.lt q hq).1; simp at hm; omega
  have hb2 : w.heap.size + 2 ≤ w6.heap.size := by have := lt_heap hV; omega
  suffices h : ∃ gk, CmMid w w3 g s B i0 a0 (Value.slice A n cc).ownBlock xs n [.int .i64 i, .int .i64 k, .slice A2 n2 c2] gk ∧ gk < s.length - i by
    obtain ⟨gk, h2, h3⟩ := h
    exact ⟨gk, h2, h3, hR.chg hC3 (by simp; omega), hV.chg hC3 (by simp; omega), own_chg hO hC3 h1, hC.trans hC3⟩
  rcases hcase with ⟨wd, j, hw, hPj, h2, rfl, rfl, h3, h4⟩ | ⟨p, q, hw, hPj, hq⟩
  · have hb := word_bound hsc hstp hw
    rw [hw] at hst2
    simp only [if_pos hb.1] at hst2
    refine ⟨s.length - j, .inl ⟨j, ws, wd, A2, c2, hPj, hX.chg hC3 (by intro k hk; simp at hk; omega), hlen, hst2, hb.2, by omega, rfl, by rw [h2], h3, fun q h0 hq => ?_⟩, by omega⟩
    have h5 := h4 q hq
    exact ⟨by omega, fun e => by have := (hO.lt q e).2; omega⟩
  · rw [hw] at hst2
    exact ⟨0, .inr ⟨p, q, hPj, hst2, hq, rfl⟩, by omega⟩
set_option maxRecDepth 100000 in
set_option maxHeartbeats 16000000 in
theorem command_any (w : World) (g : Nat) (s : List UInt8) (i0 : Nat) (a0 : Int) (hs : s.length ≤ 16777300) (hi0 : i0 ≤ s.length) (h : PS w g (bstr s) i0 a0 0) :
    Calls Try.prog 42 #[.pointer (some ⟨g, 0, none⟩)] w (CmEnd w g s i0 a0) := by
  have hsz : (bstr s).size = s.length := rfl
  obtain ⟨B, hB⟩ : ∃ B, bstr s = B := ⟨_, rfl⟩
  have hby : ∀ i (h : i < B.size), s[i]? = some (B[i]'h) := by rw [← hB]; exact fun i h => byte_of h
  have hgl := lt_heap h
  unfold CmEnd
  have hwd := Lib.hid (fun W (i : Nat) (c : UInt8) (hc : s[i]? = some c) (hst : stopB c = false) (hP : PS W g (bstr s) i a0 0) => word_any W g s i c a0 hs hc hst hP)
  rw [hB] at h hsz hwd ⊢
  obtain ⟨c0, c1, -, -⟩ := h.c0
  replace hby := Lib.hid hby
  have hP : Hid (PS ((w.alloc (.cells #[.int .i64 0, .slice none 0 0] 69)).alloc (.cells #[.int .i64 i0, .slice none 0 0] 69)) g B i0 a0 0) := Lib.hid (PS.chg h (((Chg.refl [] w).alloc _).alloc _) (by simp))
  have hR : Hid (CS ((w.alloc (.cells #[.int .i64 0, .slice none 0 0] 69)).alloc (.cells #[.int .i64 i0, .slice none 0 0] 69)) w.heap.size (.int .i64 0) (.slice none 0 0)) := Lib.hid (blk_alloc (blk_new _ _) _)
  have hV : Hid (CS ((w.alloc (.cells #[.int .i64 0, .slice none 0 0] 69)).alloc (.cells #[.int .i64 i0, .slice none 0 0] 69)) (w.heap.size + 1) (.int .i64 i0) (.slice none 0 0)) := Lib.hid (by
    have := blk_new (w.alloc (.cells #[.int .i64 0, .slice none 0 0] 69)) (.cells #[.int .i64 i0, .slice none 0 0] 69)
    rw [show (w.alloc (.cells #[.int .i64 0, .slice none 0 0] 69)).heap.size = w.heap.size + 1 from Array.size_push ..] at this
    exact this)
  have hC : Hid (Chg [g] w ((w.alloc (.cells #[.int .i64 0, .slice none 0 0] 69)).alloc (.cells #[.int .i64 i0, .slice none 0 0] 69))) := Lib.hid (((Chg.refl [g] w).alloc _).alloc _)
  go_enter Try.func42, Try.ntmps42
  go_wp2_with fail
  go_loopg [] (s.length - i0) (fun gk wr => ∃ (A : Option Addr) (n cc : Nat) (xs : List Value), CS wr w.heap.size (.int .i64 0) (.slice none 0 0) ∧ CS wr (w.heap.size + 1) (.int .i64 i0) (.slice A n cc) ∧ wr.ownsRow w.heap.size 38 3 (.slice A n cc) n xs ∧ Chg [g] w wr ∧ CmGo w wr g s B i0 a0 (Value.slice A n cc).ownBlock xs n gk)
  case atStart => exact ⟨none, 0, 0, [], hR.out, hV.out, World.ownsRow_nil _ _ _ _, hC.out, .inl ⟨i0, [], hP.out, WordsAt.nil _ _ _, rfl, rfl, hi0, by omega, rfl⟩⟩
  case round =>
    clear hP hR hV hC h
    obtain ⟨A, n, cc, xs, hR, hV, hO, hC, hgo⟩ := hrel
    replace hR := Lib.hid hR
    replace hV := Lib.hid hV
    replace hO := Lib.hid hO
    replace hC := Lib.hid hC
    rcases hgo with ⟨i, ws, hP, hX, hlen, hcm, hil, hni, rfl⟩ | ⟨p, q, hP, hcm, hq0, rfl⟩
    · replace hP := Lib.hid hP
      replace hX := Lib.hid hX
      replace hlen := Lib.hid hlen
      by_cases hlt : i < s.length
      · have hlB : i < B.size := by omega
        obtain ⟨c, hc⟩ : ∃ c, B[i]'hlB = c := ⟨_, rfl⟩
        have hsc : s[i]? = some c := by rw [hby.out i hlB, hc]
        have hstep := Lib.hid (hcm.trans (command_some hsc))
        clear hcm
        obtain ⟨c0, c1, -, -⟩ := hP.out.c0
        have f1 := hP.out.f0 1
        obtain ⟨d0, d1⟩ := hV.out.c0
        have e0 := hV.out.f0 0
        have e1 := hV.out.f0 1
        obtain ⟨r0, r1⟩ := hR.out.c0
        have x0 := hR.out.f0 0
        have x1 := hR.out.f0 1

        cases hce : endB c with
        | true =>
          have hE := Lib.hid (hstep.out.trans (if_pos hce))
          have hin := Lib.hid (fun W => in_any ⟨#[10, 59]⟩ c true (in_ends c true hce) W)
          clear hstep
          go_wp2_with fail
          go_quiet ((go_at_call 40; exact (hin.out _).mono (fun e w' h => ⟨h.1, _, h.2.symm⟩)))
          replace hP := Lib.hid (PS.chg hP.out ((Chg.refl [] _).drewN nq) (by simp))
          replace hR := Lib.hid (CS.chg hR.out ((Chg.refl [] _).drewN nq) (by simp))
          replace hV := Lib.hid (CS.chg hV.out ((Chg.refl [] _).drewN nq) (by simp))
          replace hO := Lib.hid (own_drewN hO.out nq)
          replace hC := Lib.hid (hC.out.drewN nq)
          replace hX := Lib.hid (WordsAt.chg hX.out ((Chg.refl [] _).drewN nq) (by simp))
          clear c0 c1 f1 d0 d1 e0 e1 r0 r1 x0 x1
          generalize World.drewN _ _ = w1 at hP hR hV hO hC hX ⊢

          obtain ⟨c0, c1, -, -⟩ := hP.out.c0
          have f1 := hP.out.f0 1
          obtain ⟨d0, d1⟩ := hV.out.c0
          have e0 := hV.out.f0 0
          have e1 := hV.out.f0 1
          obtain ⟨r0, r1⟩ := hR.out.c0
          have x0 := hR.out.f0 0
          have x1 := hR.out.f0 1

          go_wp2_with fail
          clear c0 c1 f1 d0 d1 e0 e1 r0 r1 x0 x1
          have hF := Lib.hid (show CS _ w.heap.size (.int .i64 i0) (.slice A n cc) from blk_set (blk_set hR.out 0 (.int .i64 i0)) 1 (.slice A n cc))
          have h3 := fun (W : World) => (((Chg.refl [w.heap.size] W).setCell (p := ⟨w.heap.size, 0, none⟩) (.inl (by simp)) (.int .i64 i0)).setCell (p := ⟨w.heap.size, 1, none⟩) (.inl (by simp)) (.slice A n cc))
          refine bodyPost_ret (v := .agg #[.int .i64 i0, .slice A n cc]) ?_ rfl ⟨A, n, cc, rfl, (hC.out.setCell (.inr (Nat.le_refl _)) _).setCell (.inr (Nat.le_refl _)) _, ?_⟩
          · exact results_cell_row rfl _ _ _ 69 _ (0, 0) _ rfl hF.out Try.underlying69 rfl (by kernel_rfl)
          · exact .inl ⟨_, _, xs, hE.out, PS.chg hP.out (h3 _) (by have := hgl; simp; omega), hlen.out.symm, own_sl (own_chg hO.out (h3 _) (fun k hk hm => own_not hO.out hR.out (by decide) (by simp at hm; rw [hm] at hk; exact hk))), (hX.out.chg (h3 _) (by intro k hk; simp at hk; omega)).less (by omega), fun q hq => (hO.out.lt q hq).1⟩

        | false =>
          have hst1 := hstep.out.trans (if_neg (by rw [hce]; decide))
          have hin := Lib.hid (fun W => in_any ⟨#[10, 59]⟩ c false (in_ends c false hce) W)
          clear hstep
          go_wp2_with fail
          go_quiet ((go_at_call 40; exact (hin.out _).mono (fun e w' h => ⟨h.1, _, h.2.symm⟩)))
          replace hP := Lib.hid (PS.chg hP.out ((Chg.refl [] _).drewN nq) (by simp))
          replace hR := Lib.hid (CS.chg hR.out ((Chg.refl [] _).drewN nq) (by simp))
          replace hV := Lib.hid (CS.chg hV.out ((Chg.refl [] _).drewN nq) (by simp))
          replace hO := Lib.hid (own_drewN hO.out nq)
          replace hC := Lib.hid (hC.out.drewN nq)
          replace hX := Lib.hid (WordsAt.chg hX.out ((Chg.refl [] _).drewN nq) (by simp))
          clear c0 c1 f1 d0 d1 e0 e1 r0 r1 x0 x1
          generalize World.drewN _ _ = w1 at hP hR hV hO hC hX ⊢

          obtain ⟨c0, c1, -, -⟩ := hP.out.c0
          have f1 := hP.out.f0 1
          obtain ⟨d0, d1⟩ := hV.out.c0
          have e0 := hV.out.f0 0
          have e1 := hV.out.f0 1
          obtain ⟨r0, r1⟩ := hR.out.c0
          have x0 := hR.out.f0 0
          have x1 := hR.out.f0 1

          clear hin
          cases hcb : blankB c with
          | true =>
            have hst2 := Lib.hid (hst1.trans (if_pos hcb))
            have hin := Lib.hid (fun W => in_any ⟨#[32, 9]⟩ c true (in_blanks c true hcb) W)
            clear hst1
            go_wp2_with fail
            go_quiet ((go_at_call 40; exact (hin.out _).mono (fun e w' h => ⟨h.1, _, h.2.symm⟩)))
            replace hP := Lib.hid (PS.chg hP.out ((Chg.refl [] _).drewN nq) (by simp))
            replace hR := Lib.hid (CS.chg hR.out ((Chg.refl [] _).drewN nq) (by simp))
            replace hV := Lib.hid (CS.chg hV.out ((Chg.refl [] _).drewN nq) (by simp))
            replace hO := Lib.hid (own_drewN hO.out nq)
            replace hC := Lib.hid (hC.out.drewN nq)
            replace hX := Lib.hid (WordsAt.chg hX.out ((Chg.refl [] _).drewN nq) (by simp))
            clear c0 c1 f1 d0 d1 e0 e1 r0 r1 x0 x1
            generalize World.drewN _ _ = w2 at hP hR hV hO hC hX ⊢

            obtain ⟨c0, c1, -, -⟩ := hP.out.c0
            have f1 := hP.out.f0 1
            obtain ⟨d0, d1⟩ := hV.out.c0
            have e0 := hV.out.f0 0
            have e1 := hV.out.f0 1
            obtain ⟨r0, r1⟩ := hR.out.c0
            have x0 := hR.out.f0 0
            have x1 := hR.out.f0 1

            have hwr : IntKind.i64.wrap ((i : Int) + 1) = (i : Int) + 1 := IntWalk.i64_in _ (by omega)
            go_wp2_with fail
            go_roundg (s.length - (i + 1))
            case measure => omega
            case rel =>
              have hcs : Chg [g] w2 (w2.setCell ⟨g, 1, none⟩ (.int .i64 ((i : Int) + 1))) := (Chg.refl [g] _).setCell (.inl (by simp)) _
              exact ⟨A, n, cc, xs, hR.out.chg hcs (by have := hgl; simp; omega), hV.out.chg hcs (by have := hgl; simp; omega), own_chg hO.out hcs (fun k hk hm => by have := (hO.out.lt k hk).1; have := hgl; simp at hm; omega), hC.out.trans hcs,
                .inl ⟨i + 1, ws, hP.out.put ((i : Int) + 1), hX.out.chg hcs (by intro k hk; simp at hk; have := hgl; omega), hlen.out, hst2.out, by omega, by omega, rfl⟩⟩
          | false =>
            have hst2 := Lib.hid (hst1.trans (if_neg (by rw [hcb]; decide)))
            have hstp : stopB c = false := by simp [stopB, hcb, hce]
            have hin := Lib.hid (fun W => in_any ⟨#[32, 9]⟩ c false (in_blanks c false hcb) W)
            clear hst1
            go_wp2_with fail
            go_quiet ((go_at_call 40; exact (hin.out _).mono (fun e w' h => ⟨h.1, _, h.2.symm⟩)))
            replace hP := Lib.hid (PS.chg hP.out ((Chg.refl [] _).drewN nq) (by simp))
            replace hR := Lib.hid (CS.chg hR.out ((Chg.refl [] _).drewN nq) (by simp))
            replace hV := Lib.hid (CS.chg hV.out ((Chg.refl [] _).drewN nq) (by simp))
            replace hO := Lib.hid (own_drewN hO.out nq)
            replace hC := Lib.hid (hC.out.drewN nq)
            replace hX := Lib.hid (WordsAt.chg hX.out ((Chg.refl [] _).drewN nq) (by simp))
            clear c0 c1 f1 d0 d1 e0 e1 r0 r1 x0 x1
            generalize World.drewN _ _ = w5 at hP hR hV hO hC hX ⊢

            obtain ⟨c0, c1, -, -⟩ := hP.out.c0
            have f1 := hP.out.f0 1
            obtain ⟨d0, d1⟩ := hV.out.c0
            have e0 := hV.out.f0 0
            have e1 := hV.out.f0 1
            obtain ⟨r0, r1⟩ := hR.out.c0
            have x0 := hR.out.f0 0
            have x1 := hR.out.f0 1

            clear hin
            go_wp2_with fail
            replace hP : Hid (PS w5.drew g B i a0 0) := hP.out
            replace hR : Hid (CS w5.drew w.heap.size (.int .i64 0) (.slice none 0 0)) := hR.out
            replace hV : Hid (CS w5.drew (w.heap.size + 1) (.int .i64 i0) (.slice A n cc)) := hV.out
            replace hO := Lib.hid (own_drew hO.out)
            replace hC := Lib.hid hC.out.drew
            replace hX := Lib.hid (WordsAt.chg hX.out (Chg.refl [] _).drew (by simp))
            clear c0 c1 f1 d0 d1 e0 e1 r0 r1 x0 x1

            refine wp_region_any (by kernel_rfl) ?_
            (try (change wpAny _ _ _ _ _ _ _ (World.drew _)))
            refine wpAny_take (i := 0) (v := ?_) rfl (by kernel_rfl) (by kernel_rfl) (by kernel_rfl) (fun _ _ _ h => h) (Or.inl ⟨by kernel_rfl, ?_⟩) ?_
            rotate_left
            · (intro w; go_simp; try with_reducible rfl)
            change wpAny _ _ _ _ _ _ (Act.put _ (some 49) _) _
            (try simp only [Act.put, List.setIfInBounds_toArray, List.set_cons_zero, List.set_cons_succ])
            (generalize World.drew w5 = w6 at hP hR hV hO hC hX ⊢; have d1 := hV.out.c0.2)
            refine wpAny_take (i := 2) (v := ?_) rfl (by kernel_rfl) (by kernel_rfl) (by kernel_rfl) (fun _ _ _ h => h) (Or.inl ⟨by kernel_rfl, ?_⟩) ?_
            rotate_left
            · (intro w; go_simp; try with_reducible rfl)
            change wpAny _ _ _ _ _ _ (Act.put _ (some 51) _) _
            (try simp only [Act.put, List.setIfInBounds_toArray, List.set_cons_zero, List.set_cons_succ])
            refine wpAny_ready (rs := [1, 3]) (by kernel_rfl) (by simp) ?_
            refine AllReady.cons rfl (fun K hK => ?_) ?_
            · go_simp
              (try (refine hK _ _ ?_; clear hK K))
              (try simp only [Act.put, List.setIfInBounds_toArray, List.set_cons_zero, List.set_cons_succ])
              refine wpAny_ready (rs := [3]) (by kernel_rfl) (by simp) ?_
              refine AllReady.cons rfl (fun K hK => ?_) ?_
              · go_simp
                go_wp2_with (first
                    | (refine (hwd.out _ i c hsc hstp hP.out).mono ?_; rintro e w3 ⟨k, A2, n2, c2, rfl, hC3, hcase⟩))
                (try (refine hK _ _ ?_; clear hK K))
                (try simp only [Act.put, List.setIfInBounds_toArray, List.set_cons_zero, List.set_cons_succ])
                (obtain ⟨gk, hM, hgk, hR, hV, hO, hC⟩ := cm_word hsc hstp hst2.out hX.out hO.out hR.out hV.out hgl hC.out hlen.out hni hP.out hC3 (by rw [hB] at hcase; exact hcase); replace hM := Lib.hid hM; replace hR := Lib.hid hR; replace hV := Lib.hid hV; replace hO := Lib.hid hO; replace hC := Lib.hid hC; have d1 := hV.out.c0.2; have d1a : ∀ o : Obj, (w3.alloc o).cell? ⟨w.heap.size + 1, 1, none⟩ = some (Value.slice A n cc) := (fun o => by have h := blk_alloc hV.out o; simp [World.cell?, h]); clear hP hX hC3 hcase)
                refine wpAny_ready (rs := [4]) (by kernel_rfl) (by simp) ?_
                refine AllReady.cons rfl (fun K hK => ?_) ?_
                · go_simp
                  (try (refine hK _ _ ?_; clear hK K))
                  (try simp only [Act.put, List.setIfInBounds_toArray, List.set_cons_zero, List.set_cons_succ])
                  refine wpAny_ready (rs := [5]) (by kernel_rfl) (by simp) ?_
                  refine AllReady.cons rfl (fun K hK => ?_) ?_
                  · (refine step_append_sl rfl (.tmp 50) (.tmp 53) 32 rfl w.heap.size 38 (.agg #[.int .i64 0, .int .i64 0, .slice none 0 0]) 3 40 Try.underlying32 Try.info_word rfl (by decide) _ n xs (hO.out.alloc _) rfl _ 1 [.int .i64 i, .int .i64 k, .slice A2 n2 c2] (sl_wide_new w3 _ 38 3 rfl) rfl (by intro u hu; simp at hu; rcases hu with rfl | rfl | rfl <;> rfl) (n + 1) rfl (by omega) (by decide) (by have := hC.out.size; simp; omega) ?_; intro A' c' w4 hO' hCh hat; obtain ⟨q1, q2, q3, q4, q5, q6, q7⟩ := row_step hV.out hR.out (by omega) (by decide) (by decide) hO.out (by omega) hC.out hO' hCh; replace q3 := Lib.hid q3; replace q4 := Lib.hid q4; replace q5 := Lib.hid q5; replace q6 := Lib.hid q6; replace q7 := Lib.hid q7; replace hat := Lib.hid hat; clear hO' hCh; refine hK _ _ ?_; clear hK K)
                    (try simp only [Act.put, List.setIfInBounds_toArray, List.set_cons_zero, List.set_cons_succ])
                    refine wpAny_take (i := 6) (v := ?_) rfl (by kernel_rfl) (by kernel_rfl) (by kernel_rfl) (fun _ _ _ h => h) (Or.inl ⟨by kernel_rfl, ?_⟩) ?_
                    rotate_left
                    · (intro w; go_simp; try with_reducible rfl)
                    change wpAny _ _ _ _ _ _ (Act.put _ (some 55) _) _
                    (try simp only [Act.put, List.setIfInBounds_toArray, List.set_cons_zero, List.set_cons_succ])
                    refine wpAny_ready (rs := [7]) (by kernel_rfl) (by simp) ?_
                    refine AllReady.cons rfl (fun K hK => ?_) ?_
                    · go_simp
                      (try (refine hK _ _ ?_; clear hK K))
                      (try simp only [Act.put, List.setIfInBounds_toArray, List.set_cons_zero, List.set_cons_succ])
                      refine wpAny_done (by kernel_rfl) ?_ _
                      (try simp only [Act.put, List.setIfInBounds_toArray, List.set_cons_zero, List.set_cons_succ])
                      go_wp2_with fail
                      go_roundg gk
                      case measure => omega
                      case rel =>
                        refine ⟨A', n + 1, c', _, q4.out, q3.out, q5.out, q6.out, hM.out.go q7.out (fun k hk => ?_) ?_⟩
                        · simp at hk
                          rcases hk with hk | rfl
                          · have := (hO.out.lt k hk).1
                            have := hgl
                            exact ⟨by omega, .inr (.inl hk)⟩
                          · have := hgl
                            exact ⟨by omega, .inl (by omega)⟩
                        · rcases hat.out with e | e
                          · exact .inl e
                          · exact .inr (fun q hq => by have := e q hq; simp at this; omega)
                    exact AllReady.nil
                  exact AllReady.nil
                exact AllReady.nil
              exact AllReady.nil
            refine AllReady.cons rfl (fun K hK => ?_) ?_
            · go_simp
              go_wp2_with (first
                  | (refine (hwd.out _ i c hsc hstp hP.out).mono ?_; rintro e w3 ⟨k, A2, n2, c2, rfl, hC3, hcase⟩))
              (try (refine hK _ _ ?_; clear hK K))
              (try simp only [Act.put, List.setIfInBounds_toArray, List.set_cons_zero, List.set_cons_succ])
              (obtain ⟨gk, hM, hgk, hR, hV, hO, hC⟩ := cm_word hsc hstp hst2.out hX.out hO.out hR.out hV.out hgl hC.out hlen.out hni hP.out hC3 (by rw [hB] at hcase; exact hcase); replace hM := Lib.hid hM; replace hR := Lib.hid hR; replace hV := Lib.hid hV; replace hO := Lib.hid hO; replace hC := Lib.hid hC; have d1 := hV.out.c0.2; have d1a : ∀ o : Obj, (w3.alloc o).cell? ⟨w.heap.size + 1, 1, none⟩ = some (Value.slice A n cc) := (fun o => by have h := blk_alloc hV.out o; simp [World.cell?, h]); clear hP hX hC3 hcase)
              refine wpAny_ready (rs := [1, 4]) (by kernel_rfl) (by simp) ?_
              refine AllReady.cons rfl (fun K hK => ?_) ?_
              · go_simp
                (try (refine hK _ _ ?_; clear hK K))
                (try simp only [Act.put, List.setIfInBounds_toArray, List.set_cons_zero, List.set_cons_succ])
                refine wpAny_ready (rs := [4]) (by kernel_rfl) (by simp) ?_
                refine AllReady.cons rfl (fun K hK => ?_) ?_
                · go_simp
                  (try (refine hK _ _ ?_; clear hK K))
                  (try simp only [Act.put, List.setIfInBounds_toArray, List.set_cons_zero, List.set_cons_succ])
                  refine wpAny_ready (rs := [5]) (by kernel_rfl) (by simp) ?_
                  refine AllReady.cons rfl (fun K hK => ?_) ?_
                  · (refine step_append_sl rfl (.tmp 50) (.tmp 53) 32 rfl w.heap.size 38 (.agg #[.int .i64 0, .int .i64 0, .slice none 0 0]) 3 40 Try.underlying32 Try.info_word rfl (by decide) _ n xs (hO.out.alloc _) rfl _ 1 [.int .i64 i, .int .i64 k, .slice A2 n2 c2] (sl_wide_new w3 _ 38 3 rfl) rfl (by intro u hu; simp at hu; rcases hu with rfl | rfl | rfl <;> rfl) (n + 1) rfl (by omega) (by decide) (by have := hC.out.size; simp; omega) ?_; intro A' c' w4 hO' hCh hat; obtain ⟨q1, q2, q3, q4, q5, q6, q7⟩ := row_step hV.out hR.out (by omega) (by decide) (by decide) hO.out (by omega) hC.out hO' hCh; replace q3 := Lib.hid q3; replace q4 := Lib.hid q4; replace q5 := Lib.hid q5; replace q6 := Lib.hid q6; replace q7 := Lib.hid q7; replace hat := Lib.hid hat; clear hO' hCh; refine hK _ _ ?_; clear hK K)
                    (try simp only [Act.put, List.setIfInBounds_toArray, List.set_cons_zero, List.set_cons_succ])
                    refine wpAny_take (i := 6) (v := ?_) rfl (by kernel_rfl) (by kernel_rfl) (by kernel_rfl) (fun _ _ _ h => h) (Or.inl ⟨by kernel_rfl, ?_⟩) ?_
                    rotate_left
                    · (intro w; go_simp; try with_reducible rfl)
                    change wpAny _ _ _ _ _ _ (Act.put _ (some 55) _) _
                    (try simp only [Act.put, List.setIfInBounds_toArray, List.set_cons_zero, List.set_cons_succ])
                    refine wpAny_ready (rs := [7]) (by kernel_rfl) (by simp) ?_
                    refine AllReady.cons rfl (fun K hK => ?_) ?_
                    · go_simp
                      (try (refine hK _ _ ?_; clear hK K))
                      (try simp only [Act.put, List.setIfInBounds_toArray, List.set_cons_zero, List.set_cons_succ])
                      refine wpAny_done (by kernel_rfl) ?_ _
                      (try simp only [Act.put, List.setIfInBounds_toArray, List.set_cons_zero, List.set_cons_succ])
                      go_wp2_with fail
                      go_roundg gk
                      case measure => omega
                      case rel =>
                        refine ⟨A', n + 1, c', _, q4.out, q3.out, q5.out, q6.out, hM.out.go q7.out (fun k hk => ?_) ?_⟩
                        · simp at hk
                          rcases hk with hk | rfl
                          · have := (hO.out.lt k hk).1
                            have := hgl
                            exact ⟨by omega, .inr (.inl hk)⟩
                          · have := hgl
                            exact ⟨by omega, .inl (by omega)⟩
                        · rcases hat.out with e | e
                          · exact .inl e
                          · exact .inr (fun q hq => by have := e q hq; simp at this; omega)
                    exact AllReady.nil
                  exact AllReady.nil
                exact AllReady.nil
              refine AllReady.cons rfl (fun K hK => ?_) ?_
              · go_simp
                (try (refine hK _ _ ?_; clear hK K))
                (try simp only [Act.put, List.setIfInBounds_toArray, List.set_cons_zero, List.set_cons_succ])
                refine wpAny_ready (rs := [1]) (by kernel_rfl) (by simp) ?_
                refine AllReady.cons rfl (fun K hK => ?_) ?_
                · go_simp
                  (try (refine hK _ _ ?_; clear hK K))
                  (try simp only [Act.put, List.setIfInBounds_toArray, List.set_cons_zero, List.set_cons_succ])
                  refine wpAny_ready (rs := [5]) (by kernel_rfl) (by simp) ?_
                  refine AllReady.cons rfl (fun K hK => ?_) ?_
                  · (refine step_append_sl rfl (.tmp 50) (.tmp 53) 32 rfl w.heap.size 38 (.agg #[.int .i64 0, .int .i64 0, .slice none 0 0]) 3 40 Try.underlying32 Try.info_word rfl (by decide) _ n xs (hO.out.alloc _) rfl _ 1 [.int .i64 i, .int .i64 k, .slice A2 n2 c2] (sl_wide_new w3 _ 38 3 rfl) rfl (by intro u hu; simp at hu; rcases hu with rfl | rfl | rfl <;> rfl) (n + 1) rfl (by omega) (by decide) (by have := hC.out.size; simp; omega) ?_; intro A' c' w4 hO' hCh hat; obtain ⟨q1, q2, q3, q4, q5, q6, q7⟩ := row_step hV.out hR.out (by omega) (by decide) (by decide) hO.out (by omega) hC.out hO' hCh; replace q3 := Lib.hid q3; replace q4 := Lib.hid q4; replace q5 := Lib.hid q5; replace q6 := Lib.hid q6; replace q7 := Lib.hid q7; replace hat := Lib.hid hat; clear hO' hCh; refine hK _ _ ?_; clear hK K)
                    (try simp only [Act.put, List.setIfInBounds_toArray, List.set_cons_zero, List.set_cons_succ])
                    refine wpAny_take (i := 6) (v := ?_) rfl (by kernel_rfl) (by kernel_rfl) (by kernel_rfl) (fun _ _ _ h => h) (Or.inl ⟨by kernel_rfl, ?_⟩) ?_
                    rotate_left
                    · (intro w; go_simp; try with_reducible rfl)
                    change wpAny _ _ _ _ _ _ (Act.put _ (some 55) _) _
                    (try simp only [Act.put, List.setIfInBounds_toArray, List.set_cons_zero, List.set_cons_succ])
                    refine wpAny_ready (rs := [7]) (by kernel_rfl) (by simp) ?_
                    refine AllReady.cons rfl (fun K hK => ?_) ?_
                    · go_simp
                      (try (refine hK _ _ ?_; clear hK K))
                      (try simp only [Act.put, List.setIfInBounds_toArray, List.set_cons_zero, List.set_cons_succ])
                      refine wpAny_done (by kernel_rfl) ?_ _
                      (try simp only [Act.put, List.setIfInBounds_toArray, List.set_cons_zero, List.set_cons_succ])
                      go_wp2_with fail
                      go_roundg gk
                      case measure => omega
                      case rel =>
                        refine ⟨A', n + 1, c', _, q4.out, q3.out, q5.out, q6.out, hM.out.go q7.out (fun k hk => ?_) ?_⟩
                        · simp at hk
                          rcases hk with hk | rfl
                          · have := (hO.out.lt k hk).1
                            have := hgl
                            exact ⟨by omega, .inr (.inl hk)⟩
                          · have := hgl
                            exact ⟨by omega, .inl (by omega)⟩
                        · rcases hat.out with e | e
                          · exact .inl e
                          · exact .inr (fun q hq => by have := e q hq; simp at this; omega)
                    exact AllReady.nil
                  exact AllReady.nil
                exact AllReady.nil
              exact AllReady.nil
            exact AllReady.nil
      · have hii : i = s.length := by omega
        subst hii
        have hE := Lib.hid (hcm.trans (command_none (List.getElem?_eq_none (Nat.le_refl _))))
        have hdec : decide ((s.length : Int) < (s.length : Int)) = false := by simp
        obtain ⟨c0, c1, -, -⟩ := hP.out.c0
        have f1 := hP.out.f0 1
        obtain ⟨d0, d1⟩ := hV.out.c0
        have e0 := hV.out.f0 0
        have e1 := hV.out.f0 1
        obtain ⟨r0, r1⟩ := hR.out.c0
        have x0 := hR.out.f0 0
        have x1 := hR.out.f0 1

        go_wp2_with fail
        go_quiet (fail)
        replace hP := Lib.hid (PS.chg hP.out ((Chg.refl [] _).drewN nq) (by simp))
        replace hR := Lib.hid (CS.chg hR.out ((Chg.refl [] _).drewN nq) (by simp))
        replace hV := Lib.hid (CS.chg hV.out ((Chg.refl [] _).drewN nq) (by simp))
        replace hO := Lib.hid (own_drewN hO.out nq)
        replace hC := Lib.hid (hC.out.drewN nq)
        replace hX := Lib.hid (WordsAt.chg hX.out ((Chg.refl [] _).drewN nq) (by simp))
        clear c0 c1 f1 d0 d1 e0 e1 r0 r1 x0 x1
        generalize World.drewN _ _ = w1 at hP hR hV hO hC hX ⊢

        obtain ⟨c0, c1, -, -⟩ := hP.out.c0
        have f1 := hP.out.f0 1
        obtain ⟨d0, d1⟩ := hV.out.c0
        have e0 := hV.out.f0 0
        have e1 := hV.out.f0 1
        obtain ⟨r0, r1⟩ := hR.out.c0
        have x0 := hR.out.f0 0
        have x1 := hR.out.f0 1

        go_wp2_with fail
        clear c0 c1 f1 d0 d1 e0 e1 r0 r1 x0 x1
        have hF := Lib.hid (show CS _ w.heap.size (.int .i64 i0) (.slice A n cc) from blk_set (blk_set hR.out 0 (.int .i64 i0)) 1 (.slice A n cc))
        have h3 := fun (W : World) => (((Chg.refl [w.heap.size] W).setCell (p := ⟨w.heap.size, 0, none⟩) (.inl (by simp)) (.int .i64 i0)).setCell (p := ⟨w.heap.size, 1, none⟩) (.inl (by simp)) (.slice A n cc))
        refine bodyPost_ret (v := .agg #[.int .i64 i0, .slice A n cc]) ?_ rfl ⟨A, n, cc, rfl, (hC.out.setCell (.inr (Nat.le_refl _)) _).setCell (.inr (Nat.le_refl _)) _, ?_⟩
        · exact results_cell_row rfl _ _ _ 69 _ (0, 0) _ rfl hF.out Try.underlying69 rfl (by kernel_rfl)
        · exact .inl ⟨_, _, xs, hE.out, PS.chg hP.out (h3 _) (by have := hgl; simp; omega), hlen.out.symm, own_sl (own_chg hO.out (h3 _) (fun k hk hm => own_not hO.out hR.out (by decide) (by simp at hm; rw [hm] at hk; exact hk))), (hX.out.chg (h3 _) (by intro k hk; simp at hk; omega)).less (by omega), fun q hq => (hO.out.lt q hq).1⟩

    · have hE := Lib.hid hcm
      replace hP := Lib.hid hP
      replace hq0 := Lib.hid hq0
      have hdec : decide ((s.length : Int) < (s.length : Int)) = false := by simp
      obtain ⟨c0, c1, -, -⟩ := hP.out.c0
      have f1 := hP.out.f0 1
      obtain ⟨d0, d1⟩ := hV.out.c0
      have e0 := hV.out.f0 0
      have e1 := hV.out.f0 1
      obtain ⟨r0, r1⟩ := hR.out.c0
      have x0 := hR.out.f0 0
      have x1 := hR.out.f0 1

      go_wp2_with fail
      go_quiet (fail)
      replace hP := Lib.hid (PS.chg hP.out ((Chg.refl [] _).drewN nq) (by simp))
      replace hR := Lib.hid (CS.chg hR.out ((Chg.refl [] _).drewN nq) (by simp))
      replace hV := Lib.hid (CS.chg hV.out ((Chg.refl [] _).drewN nq) (by simp))
      replace hO := Lib.hid (own_drewN hO.out nq)
      replace hC := Lib.hid (hC.out.drewN nq)
      clear c0 c1 f1 d0 d1 e0 e1 r0 r1 x0 x1
      generalize World.drewN _ _ = w1 at hP hR hV hO hC ⊢

      obtain ⟨c0, c1, -, -⟩ := hP.out.c0
      have f1 := hP.out.f0 1
      obtain ⟨d0, d1⟩ := hV.out.c0
      have e0 := hV.out.f0 0
      have e1 := hV.out.f0 1
      obtain ⟨r0, r1⟩ := hR.out.c0
      have x0 := hR.out.f0 0
      have x1 := hR.out.f0 1

      go_wp2_with fail
      clear c0 c1 f1 d0 d1 e0 e1 r0 r1 x0 x1
      have hF := Lib.hid (show CS _ w.heap.size (.int .i64 i0) (.slice A n cc) from blk_set (blk_set hR.out 0 (.int .i64 i0)) 1 (.slice A n cc))
      have h3 := fun (W : World) => (((Chg.refl [w.heap.size] W).setCell (p := ⟨w.heap.size, 0, none⟩) (.inl (by simp)) (.int .i64 i0)).setCell (p := ⟨w.heap.size, 1, none⟩) (.inl (by simp)) (.slice A n cc))
      refine bodyPost_ret (v := .agg #[.int .i64 i0, .slice A n cc]) ?_ rfl ⟨A, n, cc, rfl, (hC.out.setCell (.inr (Nat.le_refl _)) _).setCell (.inr (Nat.le_refl _)) _, ?_⟩
      · exact results_cell_row rfl _ _ _ 69 _ (0, 0) _ rfl hF.out Try.underlying69 rfl (by kernel_rfl)
      · exact .inr ⟨_, _, hE.out, PS.chg hP.out (h3 _) (by have := hgl; simp; omega), hq0.out⟩
end Go.Proofs.Ytakcolililbkjaa
