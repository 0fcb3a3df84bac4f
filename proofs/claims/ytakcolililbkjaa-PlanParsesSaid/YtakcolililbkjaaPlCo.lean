/- Contract of package plan's command. Conditions: as it states. -/
import Derived.Test.YtakcolililbkjaaPlCm
import Derived.Test.YtakcolililbkjaaPlList
set_option linter.unusedVariables false
set_option linter.unusedSimpArgs false
namespace Go.Proofs.Ytakcolililbkjaa
namespace Pl
open Go.RowKit Tcl Plan
/-- Both result variables are laid anew. -/
theorem co_put {wv : World} {g4 g5 : Nat} {k0 a0 p0 q0 : Int} {s0 b0 : Value} (hO : OS wv g4 k0 a0 s0 b0) (hW : WS wv g5 p0 q0) (hne : g4 ≠ g5) (k a : Int) (s b : Value) (p q : Int) :
    OS (((wv.setRow g4 #[.int .i64 k, .int .i64 a, s, b]).setCell ⟨g5, 0, none⟩ (.int .i64 p)).setCell ⟨g5, 1, none⟩ (.int .i64 q)) g4 k a s b ∧
    WS (((wv.setRow g4 #[.int .i64 k, .int .i64 a, s, b]).setCell ⟨g5, 0, none⟩ (.int .i64 p)).setCell ⟨g5, 1, none⟩ (.int .i64 q)) g5 p q ∧
    Chg [g4, g5] wv (((wv.setRow g4 #[.int .i64 k, .int .i64 a, s, b]).setCell ⟨g5, 0, none⟩ (.int .i64 p)).setCell ⟨g5, 1, none⟩ (.int .i64 q)) := by
  have h1 := Chg_setRow (Chg.refl [g4] wv) (g := g4) (.inl (by simp)) #[.int .i64 k, .int .i64 a, s, b]
  have h2 := fun W : World => ((Chg.refl [g5] W).setCell (p := ⟨g5, 0, none⟩) (.inl (by simp)) (.int .i64 p)).setCell (p := ⟨g5, 1, none⟩) (.inl (by simp)) (.int .i64 q)
  refine ⟨(hO.put k a s b).chg (h2 _) (by simpa using hne), WS.put (hW.chg h1 (by simpa using fun e => hne e.symm)) p q, ?_⟩
  exact (Chg.mono h1 (by simp)).trans (Chg.mono (h2 _) (by simp))
set_option maxRecDepth 100000 in
set_option maxHeartbeats 16000000 in
theorem pcommand_any (rec : List UInt8 → Nat → Except Bad (List Plan.Op)) (L M : Nat) (hrec : RecOk rec L M) (hL : L ≤ 16777217) (hM : M ≤ 1099511627776) (w : World) (B : Nat → Prop) (c : Cmd) (A : Option Addr) (n cc : Nat) (body : Bool)
    (hW : WsV w B A n cc c.words) (hwd : Wd L M c.words) (hne : c.words ≠ []) (hat : c.at_ ≤ M) (hB : ∀ q, w.heap.size ≤ q → B q) : Calls Try.prog 21 #[.agg #[.int .i64 c.at_, .slice A n cc], .bool body] w (CoEnd w B (cmdOp rec body c)) := by
  unfold CoEnd
  have hn9 := hW.max
  obtain ⟨at_, ws⟩ := c
  simp only at hW hwd hne hat ⊢
  cases ws with
  | nil => exact absurd rfl hne
  | cons w0 args =>
  clear hne
  obtain ⟨R, hR⟩ : ∃ R, cmdOp rec body ⟨at_, w0 :: args⟩ = R := ⟨_, rfl⟩
  rw [hR]
  unfold cmdOp at hR
  simp only at hR
  have hpos : 0 < n := by have := hW.1; simp at this; omega
  obtain ⟨b, o, Ap, cp, rfl, q0, q1, q2, hp, hbk, hpn⟩ := hW.head
  have hbl : b < w.heap.size := block_lt_of_cell q0
  obtain ⟨A1, c1, hsl, hW1⟩ := hW.tail
  obtain ⟨wa, hwa⟩ : ∃ wa, ((w.alloc (.cells #[.int .i64 at_, .slice (some ⟨b, o, none⟩) n cc] 69)).alloc (.cells #[.int .i64 0, .int .i64 0, .slice none 0 0, .slice none 0 0] 35)).alloc (.cells #[.int .i64 0, .int .i64 0] 55) = wa := ⟨_, rfl⟩
  have hsz1 : (w.alloc (.cells #[.int .i64 at_, .slice (some ⟨b, o, none⟩) n cc] 69)).heap.size = w.heap.size + 1 := Array.size_push ..
  have hsz2 : ((w.alloc (.cells #[.int .i64 at_, .slice (some ⟨b, o, none⟩) n cc] 69)).alloc (.cells #[.int .i64 0, .int .i64 0, .slice none 0 0, .slice none 0 0] 35)).heap.size = w.heap.size + 2 := by
    rw [show ∀ (x : World) y, (x.alloc y).heap.size = x.heap.size + 1 from fun _ _ => Array.size_push .., hsz1]
  have hCa : Chg [] w wa := by rw [← hwa]; exact (((Chg.refl [] w).alloc _).alloc _).alloc _
  have hK0 : CS wa w.heap.size (.int .i64 at_) (.slice (some ⟨b, o, none⟩) n cc) := by rw [← hwa]; exact blk_alloc (blk_alloc (blk_new _ _) _) _
  have hOS : OS wa (w.heap.size + 1) 0 0 (.slice none 0 0) (.slice none 0 0) := by rw [← hwa, ← hsz1]; exact blk_alloc (blk_new _ _) _
  have hWS : WS wa (w.heap.size + 2) 0 0 := by rw [← hwa, ← hsz2]; exact blk_new _ _
  have hsz3 : wa.heap.size = w.heap.size + 3 := by rw [← hwa, show ∀ (x : World) y, (x.alloc y).heap.size = x.heap.size + 1 from fun _ _ => Array.size_push .., hsz2]
  have h1 := one_any wa w0 Ap cp (hp.chg hCa (fun _ _ _ => by simp))
  unfold wordV oneV at h1
  obtain ⟨np, hnp⟩ : ∃ np, w0.parts.length = np := ⟨_, rfl⟩
  rw [hnp] at h1 q2
  replace q0 := hCa.cell q0 (by simp)
  replace q1 := hCa.cell q1 (by simp)
  replace q2 := hCa.cell q2 (by simp)
  obtain ⟨k0, k1⟩ := hK0.c0
  replace h1 := Lib.hid h1
  replace hCa := Lib.hid hCa
  replace hK0 := Lib.hid hK0
  replace hOS := Lib.hid hOS
  replace hWS := Lib.hid hWS
  replace hR := Lib.hid hR
  replace hsz3 := Lib.hid hsz3
  replace hW1 := Lib.hid hW1
  replace hrec := Lib.hid hrec
  replace hwd := Lib.hid hwd
  replace hB := Lib.hid hB
  clear hsz1 hsz2 hp hbk hpn hW
  obtain ⟨s, hs⟩ : ∃ s, (oneT w0).getD [] = s := ⟨_, rfl⟩
  obtain ⟨ok, hok⟩ : ∃ ok, (oneT w0).isSome = ok := ⟨_, rfl⟩
  rw [hs, hok] at h1
  have hz : ∀ W, (zeroValue 82).run Try.prog W = .ok (.agg #[.int .i64 0, .int .i64 0, .int .i64 0]) W := fun W => by rfl
  obtain ⟨K, Lo, Hi, is, hKi, hfi⟩ : ∃ (K Lo Hi : Nat) (is : Bool), (Value.tuple #[((lookB (bstr s) formsB).getD (.agg #[.int .i64 0, .int .i64 0, .int .i64 0])), .bool (lookB (bstr s) formsB).isSome]) = .tuple #[.agg #[.int .i64 (K : Int), .int .i64 (Lo : Int), .int .i64 (Hi : Int)], .bool is] ∧
      ((is = false ∧ formOf s = none) ∨ (is = true ∧ formOf s = some (K, Lo, Hi))) := by
    rw [form_look]
    cases hf : formOf s with
    | none => exact ⟨0, 0, 0, false, rfl, .inl ⟨rfl, rfl⟩⟩
    | some x => exact ⟨x.1, x.2.1, x.2.2, true, rfl, .inr ⟨rfl, rfl⟩⟩
  have hlook := Lib.hid (fun W b (hM : MapAt W b formsB) => map_look (P := Try.prog) (t := 84) (kt := 9) (e := 82) Try.underlying84 Try.underlying9 hM (hz W) (bstr s))
  rw [hKi] at hlook
  obtain ⟨Z, hZ⟩ : ∃ Z, bstr s = Z := ⟨_, rfl⟩
  rw [hZ] at hlook h1
  replace hs := Lib.hid hs
  replace hok := Lib.hid hok
  replace hfi := Lib.hid hfi
  clear hz hKi hZ
  obtain ⟨g0, hg0⟩ : ∃ g0, w.heap.size = g0 := ⟨_, rfl⟩
  rw [hg0] at hK0 k0 k1 hOS hWS
  obtain ⟨g4, hg4⟩ : ∃ g4, g0 + 1 = g4 := ⟨_, rfl⟩
  obtain ⟨g5, hg5⟩ : ∃ g5, g0 + 2 = g5 := ⟨_, rfl⟩
  have hg45 : Hid (¬ g5 = g4) := Lib.hid (by omega)
  have hgl : Hid (w.heap.size ≤ g4 ∧ w.heap.size ≤ g5 ∧ w.heap.size = g0 ∧ g4 = g0 + 1 ∧ g5 = g0 + 2) := Lib.hid (by omega)
  rw [hg4] at hOS
  rw [hg5] at hWS
  have hg5' : g0 + 1 + 1 = g5 := by omega
  have hg5'' : g4 + 1 = g5 := by omega
  go_enter Try.func21, Try.ntmps21
  go_upto_region 1 with fail
  (try rw [hg0])
  (try rw [hg5'])
  (try rw [hg5])
  (try rw [hg4])
  clear hwa hg5'' hg5' hg5 hg4 hg0
  go_wp2_with fail
  refine (h1.out).mono ?_
  rintro e w1 ⟨rfl, hC1⟩
  clear h1
  replace q0 := hC1.cell q0 (by simp)
  replace q1 := hC1.cell q1 (by simp)
  replace q2 := hC1.cell q2 (by simp)
  replace hK0 := Lib.hid (hK0.out.chg hC1 (by simp))
  replace hOS := Lib.hid (hOS.out.chg hC1 (by simp))
  replace hWS := Lib.hid (hWS.out.chg hC1 (by simp))
  replace hCa := Lib.hid (hCa.out.trans hC1)
  obtain ⟨k0, k1⟩ := hK0.out.c0
  replace hsz3 := Lib.hid (show w.heap.size + 3 ≤ w1.heap.size by have h1 := hsz3.out; have h2 := hC1.size; omega)
  clear hC1
  go_wp2_with fail
  refine (forms_any _).mono ?_
  rintro e w2 ⟨bm, rfl, hM2, hC1⟩
  have hl2 := hlook.out w2 bm hM2
  replace q0 := hC1.cell q0 (by simp)
  replace q1 := hC1.cell q1 (by simp)
  replace q2 := hC1.cell q2 (by simp)
  have hC2 := hC1.alloc (.cells #[.int .i64 K, .int .i64 Lo, .int .i64 Hi] 82)
  obtain ⟨wv, hwv⟩ : ∃ wv, w2.alloc (.cells #[.int .i64 K, .int .i64 Lo, .int .i64 Hi] 82) = wv := ⟨_, rfl⟩
  have hF : FS wv w2.heap.size K Lo Hi := by rw [← hwv]; exact blk_new _ _
  rw [hwv] at hC2
  have hC3 : Chg [] w2 wv := by rw [← hwv]; exact (Chg.refl [] w2).alloc _
  replace q0 := hC3.cell q0 (by simp)
  replace q1 := hC3.cell q1 (by simp)
  replace q2 := hC3.cell q2 (by simp)
  replace hK0 := Lib.hid (hK0.out.chg hC2 (by simp))
  replace hOS := Lib.hid (hOS.out.chg hC2 (by simp))
  replace hWS := Lib.hid (hWS.out.chg hC2 (by simp))
  have hCv := Lib.hid (hCa.out.trans hC2)
  obtain ⟨k0, k1⟩ := hK0.out.c0
  obtain ⟨e0, e1, e2⟩ := hF.c0
  have hszv := Lib.hid (show w.heap.size + 3 ≤ wv.heap.size by have h1 := hsz3.out; have h2 := hC2.size; omega)
  obtain ⟨g8, hg8⟩ : ∃ g8, w2.heap.size = g8 := ⟨_, rfl⟩
  rw [hg8] at hF e0 e1 e2
  have hg8w : Hid (w.heap.size + 3 ≤ g8 ∧ g8 < wv.heap.size) := Lib.hid (by have h1 := hsz3.out; have h2 := hC1.size; have h3 := lt_heap hF; omega)
  replace hF := Lib.hid hF
  clear hlook hM2 hC1 hC2 hCa hsz3
  obtain ⟨m1, hm1⟩ : ∃ m1, args.length = m1 := ⟨_, rfl⟩
  rw [hm1] at hsl hW1
  replace hm1 := Lib.hid hm1
  have hbl' := Lib.hid hbl
  clear hbl
  go_upto_block 0 with (fail)
  clear hwv hg8 hC3 hl2 hsl
  have yk0 := Lib.hid (fun W (hc : Chg [g4, g5] wv W) => hc.cell k0 (by have := hgl.out; simp; omega))
  have yk1 := Lib.hid (fun W (hc : Chg [g4, g5] wv W) => hc.cell k1 (by have := hgl.out; simp; omega))
  have yq0 := Lib.hid (fun W (hc : Chg [g4, g5] wv W) => hc.cell q0 (by have := hgl.out; have := hbl'.out; simp; omega))
  cases ho : oneT w0 with
  | none =>
    obtain rfl : ok = false := by rw [← hok.out, ho]; rfl
    have hE : Hid (R = .error (w0.at_, 4)) := Lib.hid (by have := hR.out; rw [ho] at this; exact this.symm)
    have hq0 : Hid ((4 : Nat) ≠ 0) := Lib.hid (by decide)
    clear ho hR
    go_upto_region 5 with fail
    clear k0 k1 q1 q2 e0 e1 e2
    refine wp_region_held (S := fun w' => Chg [g4, g5] wv w') (by kernel_rfl) ?_
    (try (change wpAnyH _ _ _ _ _ _ _ _ (World.drew _)))
    have hHeld : Chg [g4, g5] wv (World.drew wv) := (Chg.refl _ _).drew
    refine wpAnyH_take (i := 0) (v := ?_) rfl (by kernel_rfl) (by kernel_rfl) (by kernel_rfl) (fun _ _ _ h => h) (Or.inl ⟨by kernel_rfl, ?_⟩) (by exact hHeld) ?_
    rotate_left
    · (intro w hSw; clear hSw; go_simp; try with_reducible rfl)
    change wpAnyH _ _ _ _ _ _ _ (Act.put _ (some 37) _) _
    (try simp only [Act.put, List.setIfInBounds_toArray, List.set_cons_zero, List.set_cons_succ])
    refine wpAnyH_take (i := 1) (v := ?_) rfl (by kernel_rfl) (by kernel_rfl) (by kernel_rfl) (fun _ _ _ h => h) (Or.inl ⟨by kernel_rfl, ?_⟩) (by exact hHeld) ?_
    rotate_left
    · (intro w hSw; clear hSw; go_simp; try with_reducible rfl)
    change wpAnyH _ _ _ _ _ _ _ (Act.put _ (some 38) _) _
    (try simp only [Act.put, List.setIfInBounds_toArray, List.set_cons_zero, List.set_cons_succ])
    refine wpAnyH_take (i := 2) (v := ?_) rfl (by kernel_rfl) (by kernel_rfl) (by kernel_rfl) (fun _ _ _ h => h) (Or.inl ⟨by kernel_rfl, ?_⟩) (by exact hHeld) ?_
    rotate_left
    · (intro w hSw; have hq := yk1.out w hSw; clear hSw; (try obtain ⟨hq, hq2, hq3⟩ := hq); go_simp; try with_reducible rfl)
    change wpAnyH _ _ _ _ _ _ _ (Act.put _ (some 39) _) _
    (try simp only [Act.put, List.setIfInBounds_toArray, List.set_cons_zero, List.set_cons_succ])
    refine wpAnyH_take (i := 3) (v := ?_) rfl (by kernel_rfl) (by kernel_rfl) (by kernel_rfl) (fun _ _ _ h => h) (Or.inl ⟨by kernel_rfl, ?_⟩) (by exact hHeld) ?_
    rotate_left
    · (intro w hSw; have hq := yk1.out w hSw; clear hSw; (try obtain ⟨hq, hq2, hq3⟩ := hq); go_simp; try with_reducible rfl)
    change wpAnyH _ _ _ _ _ _ _ (Act.put _ (some 40) _) _
    (try simp only [Act.put, List.setIfInBounds_toArray, List.set_cons_zero, List.set_cons_succ])
    refine wpAnyH_take (i := 4) (v := ?_) rfl (by kernel_rfl) (by kernel_rfl) (by kernel_rfl) (fun _ _ _ h => h) (Or.inl ⟨by kernel_rfl, ?_⟩) (by exact hHeld) ?_
    rotate_left
    · (intro w hSw; clear hSw; go_simp; try with_reducible rfl)
    change wpAnyH _ _ _ _ _ _ _ (Act.put _ (some 41) _) _
    (try simp only [Act.put, List.setIfInBounds_toArray, List.set_cons_zero, List.set_cons_succ])
    refine wpAnyH_take (i := 5) (v := ?_) rfl (by kernel_rfl) (by kernel_rfl) (by kernel_rfl) (fun _ _ _ h => h) (Or.inl ⟨by kernel_rfl, ?_⟩) (by exact hHeld) ?_
    rotate_left
    · (intro w hSw; have hq := yq0.out w hSw; clear hSw; (try obtain ⟨hq, hq2, hq3⟩ := hq); go_simp; try with_reducible rfl)
    change wpAnyH _ _ _ _ _ _ _ (Act.put _ (some 42) _) _
    (try simp only [Act.put, List.setIfInBounds_toArray, List.set_cons_zero, List.set_cons_succ])
    refine wpAnyH_take (i := 6) (v := ?_) rfl (by kernel_rfl) (by kernel_rfl) (by kernel_rfl) (fun _ _ _ h => h) (Or.inl ⟨by kernel_rfl, ?_⟩) (by exact hHeld) ?_
    rotate_left
    · (intro w hSw; clear hSw; go_simp; try with_reducible rfl)
    change wpAnyH _ _ _ _ _ _ _ (Act.put _ (some 43) _) _
    (try simp only [Act.put, List.setIfInBounds_toArray, List.set_cons_zero, List.set_cons_succ])
    refine wpAnyH_all (rs := [7]) (by kernel_rfl) (by simp) ?_
    refine AllReadyH.cons rfl (fun K hK => ?_) ?_
    · (refine wp_store_op (.tmp 4) (.tmp 37) rfl g4 0 0 (.slice none 0 0) (.slice none 0 0) rfl rfl rfl rfl (by exact hOS.out) ?_; refine hK.out _ _ (Chg_setRow hHeld (.inl (by simp)) _) (fun hHeld => ?_); clear hK K)
      (try simp only [Act.put, List.setIfInBounds_toArray, List.set_cons_zero, List.set_cons_succ])
      (have hT := WS.chg (w := World.drew wv) hWS.out (Chg_setRow (Chg.refl [g4] (World.drew wv)) (g := g4) (.inl (by simp)) #[.int .i64 0, .int .i64 0, .slice none 0 0, .slice none 0 0]) (by simpa using hg45.out); obtain ⟨t0, t1⟩ := WS.c0 hT; have tf0 := WS.f0 hT 0; have tf1 := WS.f0 hT 1)
      refine wpAnyH_all (rs := [8]) (by kernel_rfl) (by simp) ?_
      refine AllReadyH.cons rfl (fun K hK => ?_) ?_
      · go_simp
        refine hK.out _ _ (by first | exact hHeld | exact Chg.trans hHeld (by assumption) | exact Chg.alloc hHeld _ | exact Chg.alloc hH9 _ | exact (Chg.setCell hHeld (.inr hge) _).setCell (.inr hge) _ | exact (Chg.setCell hHeld (.inl (by simp)) _).setCell (.inl (by simp)) _) (fun hHeld => ?_)
        clear hK K
        (try simp only [Act.put, List.setIfInBounds_toArray, List.set_cons_zero, List.set_cons_succ])
        refine wpAnyH_done (by kernel_rfl) ?_ _
        (try simp only [Act.put, List.setIfInBounds_toArray, List.set_cons_zero, List.set_cons_succ])
        go_wp2_with fail
        (try rw [Exit.noGoto_ret])
        obtain ⟨hF4, hF5, hCh⟩ := co_put (wv := World.drew wv) hOS.out hWS.out (fun e => hg45.out e.symm) 0 0 (.slice none 0 0) (.slice none 0 0) ((w0.at_ : Nat) : Int) ((4 : Nat) : Int)
        have hCf := hCv.out.drew.then hCh (by intro x hx; simp at hx; have := hgl.out; rcases hx with rfl | rfl <;> right <;> omega)
        refine bodyPost_ret (v := .tuple #[.agg #[.int .i64 0, .int .i64 0, .slice none 0 0, .slice none 0 0], .agg #[.int .i64 ((w0.at_ : Nat) : Int), .int .i64 ((4 : Nat) : Int)]]) ?_ rfl ⟨hCf, .inr ⟨w0.at_, 4, hE.out, hq0.out, rfl⟩⟩
        exact results_cell_cell rfl _ _ _ _ 35 55 _ _ _ _ rfl rfl hF4 hF5 Try.underlying35 rfl (by kernel_rfl) Try.underlying55 rfl (by kernel_rfl)
      exact AllReadyH.nil
    exact AllReadyH.nil
  | some s0 =>
    obtain rfl : ok = true := by rw [← hok.out, ho]; rfl
    obtain rfl : s = s0 := by rw [← hs.out, ho]; rfl
    rcases hfi.out with ⟨rfl, hf⟩ | ⟨rfl, hf⟩
    · have hE : Hid (R = .error (at_, 8)) := Lib.hid (by have := hR.out; rw [ho] at this; simp only at this; rw [hf] at this; exact this.symm)
      have hq0 : Hid ((8 : Nat) ≠ 0) := Lib.hid (by decide)
      clear ho hR hf
      go_upto_region 7 with fail
      clear k0 k1 q0 q1 q2 e0 e1 e2
      refine wp_region_held (S := fun w' => Chg [g4, g5] wv w') (by kernel_rfl) ?_
      (try (change wpAnyH _ _ _ _ _ _ _ _ (World.drew _)))
      have hHeld : Chg [g4, g5] wv (World.drew wv) := (Chg.refl _ _).drew
      refine wpAnyH_take (i := 0) (v := ?_) rfl (by kernel_rfl) (by kernel_rfl) (by kernel_rfl) (fun _ _ _ h => h) (Or.inl ⟨by kernel_rfl, ?_⟩) (by exact hHeld) ?_
      rotate_left
      · (intro w hSw; clear hSw; go_simp; try with_reducible rfl)
      change wpAnyH _ _ _ _ _ _ _ (Act.put _ (some 47) _) _
      (try simp only [Act.put, List.setIfInBounds_toArray, List.set_cons_zero, List.set_cons_succ])
      refine wpAnyH_take (i := 1) (v := ?_) rfl (by kernel_rfl) (by kernel_rfl) (by kernel_rfl) (fun _ _ _ h => h) (Or.inl ⟨by kernel_rfl, ?_⟩) (by exact hHeld) ?_
      rotate_left
      · (intro w hSw; clear hSw; go_simp; try with_reducible rfl)
      change wpAnyH _ _ _ _ _ _ _ (Act.put _ (some 48) _) _
      (try simp only [Act.put, List.setIfInBounds_toArray, List.set_cons_zero, List.set_cons_succ])
      refine wpAnyH_take (i := 2) (v := ?_) rfl (by kernel_rfl) (by kernel_rfl) (by kernel_rfl) (fun _ _ _ h => h) (Or.inl ⟨by kernel_rfl, ?_⟩) (by exact hHeld) ?_
      rotate_left
      · (intro w hSw; have hq := yk0.out w hSw; clear hSw; (try obtain ⟨hq, hq2, hq3⟩ := hq); go_simp; try with_reducible rfl)
      change wpAnyH _ _ _ _ _ _ _ (Act.put _ (some 49) _) _
      (try simp only [Act.put, List.setIfInBounds_toArray, List.set_cons_zero, List.set_cons_succ])
      refine wpAnyH_take (i := 3) (v := ?_) rfl (by kernel_rfl) (by kernel_rfl) (by kernel_rfl) (fun _ _ _ h => h) (Or.inl ⟨by kernel_rfl, ?_⟩) (by exact hHeld) ?_
      rotate_left
      · (intro w hSw; clear hSw; go_simp; try with_reducible rfl)
      change wpAnyH _ _ _ _ _ _ _ (Act.put _ (some 50) _) _
      (try simp only [Act.put, List.setIfInBounds_toArray, List.set_cons_zero, List.set_cons_succ])
      refine wpAnyH_all (rs := [4]) (by kernel_rfl) (by simp) ?_
      refine AllReadyH.cons rfl (fun K hK => ?_) ?_
      · (refine wp_store_op (.tmp 4) (.tmp 47) rfl g4 0 0 (.slice none 0 0) (.slice none 0 0) rfl rfl rfl rfl (by exact hOS.out) ?_; refine hK.out _ _ (Chg_setRow hHeld (.inl (by simp)) _) (fun hHeld => ?_); clear hK K)
        (try simp only [Act.put, List.setIfInBounds_toArray, List.set_cons_zero, List.set_cons_succ])
        (have hT := WS.chg (w := World.drew wv) hWS.out (Chg_setRow (Chg.refl [g4] (World.drew wv)) (g := g4) (.inl (by simp)) #[.int .i64 0, .int .i64 0, .slice none 0 0, .slice none 0 0]) (by simpa using hg45.out); obtain ⟨t0, t1⟩ := WS.c0 hT; have tf0 := WS.f0 hT 0; have tf1 := WS.f0 hT 1)
        refine wpAnyH_all (rs := [5]) (by kernel_rfl) (by simp) ?_
        refine AllReadyH.cons rfl (fun K hK => ?_) ?_
        · go_simp
          refine hK.out _ _ (by first | exact hHeld | exact Chg.trans hHeld (by assumption) | exact Chg.alloc hHeld _ | exact Chg.alloc hH9 _ | exact (Chg.setCell hHeld (.inr hge) _).setCell (.inr hge) _ | exact (Chg.setCell hHeld (.inl (by simp)) _).setCell (.inl (by simp)) _) (fun hHeld => ?_)
          clear hK K
          (try simp only [Act.put, List.setIfInBounds_toArray, List.set_cons_zero, List.set_cons_succ])
          refine wpAnyH_done (by kernel_rfl) ?_ _
          (try simp only [Act.put, List.setIfInBounds_toArray, List.set_cons_zero, List.set_cons_succ])
          go_wp2_with fail
          (try rw [Exit.noGoto_ret])
          obtain ⟨hF4, hF5, hCh⟩ := co_put (wv := World.drew wv) hOS.out hWS.out (fun e => hg45.out e.symm) 0 0 (.slice none 0 0) (.slice none 0 0) ((at_ : Nat) : Int) ((8 : Nat) : Int)
          have hCf := hCv.out.drew.then hCh (by intro x hx; simp at hx; have := hgl.out; rcases hx with rfl | rfl <;> right <;> omega)
          refine bodyPost_ret (v := .tuple #[.agg #[.int .i64 0, .int .i64 0, .slice none 0 0, .slice none 0 0], .agg #[.int .i64 ((at_ : Nat) : Int), .int .i64 ((8 : Nat) : Int)]]) ?_ rfl ⟨hCf, .inr ⟨at_, 8, hE.out, hq0.out, rfl⟩⟩
          exact results_cell_cell rfl _ _ _ _ 35 55 _ _ _ _ rfl rfl hF4 hF5 Try.underlying35 rfl (by kernel_rfl) Try.underlying55 rfl (by kernel_rfl)
        exact AllReadyH.nil
      exact AllReadyH.nil
    · have hfb := form_bounds hf
      have hR2 := hR.out
      rw [ho] at hR2
      simp only at hR2
      rw [hf] at hR2
      simp only at hR2
      rw [hm1.out] at hR2
      clear ho hf hR hfi
      by_cases hlo : m1 < Lo
      · have hE : Hid (R = .error (at_, 2)) := Lib.hid (by rw [if_pos (.inl hlo)] at hR2; exact hR2.symm)
        have hq0 : Hid ((2 : Nat) ≠ 0) := Lib.hid (by decide)
        have hd : decide ((m1 : Int) < (Lo : Int)) = true := by simp; omega
        clear hR2 hfb
        go_upto_region 9 with fail
        clear k0 k1 q0 q1 q2 e0 e1 e2
        refine wp_region_held (S := fun w' => Chg [g4, g5] wv w') (by kernel_rfl) ?_
        (try (change wpAnyH _ _ _ _ _ _ _ _ (World.drew _)))
        have hHeld : Chg [g4, g5] wv (World.drew wv) := (Chg.refl _ _).drew
        refine wpAnyH_take (i := 0) (v := ?_) rfl (by kernel_rfl) (by kernel_rfl) (by kernel_rfl) (fun _ _ _ h => h) (Or.inl ⟨by kernel_rfl, ?_⟩) (by exact hHeld) ?_
        rotate_left
        · (intro w hSw; clear hSw; go_simp; try with_reducible rfl)
        change wpAnyH _ _ _ _ _ _ _ (Act.put _ (some 64) _) _
        (try simp only [Act.put, List.setIfInBounds_toArray, List.set_cons_zero, List.set_cons_succ])
        refine wpAnyH_take (i := 1) (v := ?_) rfl (by kernel_rfl) (by kernel_rfl) (by kernel_rfl) (fun _ _ _ h => h) (Or.inl ⟨by kernel_rfl, ?_⟩) (by exact hHeld) ?_
        rotate_left
        · (intro w hSw; clear hSw; go_simp; try with_reducible rfl)
        change wpAnyH _ _ _ _ _ _ _ (Act.put _ (some 65) _) _
        (try simp only [Act.put, List.setIfInBounds_toArray, List.set_cons_zero, List.set_cons_succ])
        refine wpAnyH_take (i := 2) (v := ?_) rfl (by kernel_rfl) (by kernel_rfl) (by kernel_rfl) (fun _ _ _ h => h) (Or.inl ⟨by kernel_rfl, ?_⟩) (by exact hHeld) ?_
        rotate_left
        · (intro w hSw; have hq := yk0.out w hSw; clear hSw; (try obtain ⟨hq, hq2, hq3⟩ := hq); go_simp; try with_reducible rfl)
        change wpAnyH _ _ _ _ _ _ _ (Act.put _ (some 66) _) _
        (try simp only [Act.put, List.setIfInBounds_toArray, List.set_cons_zero, List.set_cons_succ])
        refine wpAnyH_take (i := 3) (v := ?_) rfl (by kernel_rfl) (by kernel_rfl) (by kernel_rfl) (fun _ _ _ h => h) (Or.inl ⟨by kernel_rfl, ?_⟩) (by exact hHeld) ?_
        rotate_left
        · (intro w hSw; clear hSw; go_simp; try with_reducible rfl)
        change wpAnyH _ _ _ _ _ _ _ (Act.put _ (some 67) _) _
        (try simp only [Act.put, List.setIfInBounds_toArray, List.set_cons_zero, List.set_cons_succ])
        refine wpAnyH_all (rs := [4]) (by kernel_rfl) (by simp) ?_
        refine AllReadyH.cons rfl (fun K hK => ?_) ?_
        · (refine wp_store_op (.tmp 4) (.tmp 64) rfl g4 0 0 (.slice none 0 0) (.slice none 0 0) rfl rfl rfl rfl (by exact hOS.out) ?_; refine hK.out _ _ (Chg_setRow hHeld (.inl (by simp)) _) (fun hHeld => ?_); clear hK K)
          (try simp only [Act.put, List.setIfInBounds_toArray, List.set_cons_zero, List.set_cons_succ])
          (have hT := WS.chg (w := World.drew wv) hWS.out (Chg_setRow (Chg.refl [g4] (World.drew wv)) (g := g4) (.inl (by simp)) #[.int .i64 0, .int .i64 0, .slice none 0 0, .slice none 0 0]) (by simpa using hg45.out); obtain ⟨t0, t1⟩ := WS.c0 hT; have tf0 := WS.f0 hT 0; have tf1 := WS.f0 hT 1)
          refine wpAnyH_all (rs := [5]) (by kernel_rfl) (by simp) ?_
          refine AllReadyH.cons rfl (fun K hK => ?_) ?_
          · go_simp
            refine hK.out _ _ (by first | exact hHeld | exact Chg.trans hHeld (by assumption) | exact Chg.alloc hHeld _ | exact Chg.alloc hH9 _ | exact (Chg.setCell hHeld (.inr hge) _).setCell (.inr hge) _ | exact (Chg.setCell hHeld (.inl (by simp)) _).setCell (.inl (by simp)) _) (fun hHeld => ?_)
            clear hK K
            (try simp only [Act.put, List.setIfInBounds_toArray, List.set_cons_zero, List.set_cons_succ])
            refine wpAnyH_done (by kernel_rfl) ?_ _
            (try simp only [Act.put, List.setIfInBounds_toArray, List.set_cons_zero, List.set_cons_succ])
            go_wp2_with fail
            (try rw [Exit.noGoto_ret])
            obtain ⟨hF4, hF5, hCh⟩ := co_put (wv := World.drew wv) hOS.out hWS.out (fun e => hg45.out e.symm) 0 0 (.slice none 0 0) (.slice none 0 0) ((at_ : Nat) : Int) ((2 : Nat) : Int)
            have hCf := hCv.out.drew.then hCh (by intro x hx; simp at hx; have := hgl.out; rcases hx with rfl | rfl <;> right <;> omega)
            refine bodyPost_ret (v := .tuple #[.agg #[.int .i64 0, .int .i64 0, .slice none 0 0, .slice none 0 0], .agg #[.int .i64 ((at_ : Nat) : Int), .int .i64 ((2 : Nat) : Int)]]) ?_ rfl ⟨hCf, .inr ⟨at_, 2, hE.out, hq0.out, rfl⟩⟩
            exact results_cell_cell rfl _ _ _ _ 35 55 _ _ _ _ rfl rfl hF4 hF5 Try.underlying35 rfl (by kernel_rfl) Try.underlying55 rfl (by kernel_rfl)
          exact AllReadyH.nil
        exact AllReadyH.nil
      have hd : decide ((m1 : Int) < (Lo : Int)) = false := by simp; omega
      have hd' : ¬ ((m1 : Int) < (Lo : Int)) := by omega
      by_cases hhi : Hi < m1
      · have hE : Hid (R = .error (at_, 2)) := Lib.hid (by rw [if_pos (.inr hhi)] at hR2; exact hR2.symm)
        have hq0 : Hid ((2 : Nat) ≠ 0) := Lib.hid (by decide)
        have hd2 : decide ((m1 : Int) > (Hi : Int)) = true := by simp; omega
        clear hR2 hfb hlo
        go_upto_region 9 with fail
        clear k0 k1 q0 q1 q2 e0 e1 e2
        refine wp_region_held (S := fun w' => Chg [g4, g5] wv w') (by kernel_rfl) ?_
        (try (change wpAnyH _ _ _ _ _ _ _ _ (World.drew _)))
        have hHeld : Chg [g4, g5] wv (World.drew wv) := (Chg.refl _ _).drew
        refine wpAnyH_take (i := 0) (v := ?_) rfl (by kernel_rfl) (by kernel_rfl) (by kernel_rfl) (fun _ _ _ h => h) (Or.inl ⟨by kernel_rfl, ?_⟩) (by exact hHeld) ?_
        rotate_left
        · (intro w hSw; clear hSw; go_simp; try with_reducible rfl)
        change wpAnyH _ _ _ _ _ _ _ (Act.put _ (some 64) _) _
        (try simp only [Act.put, List.setIfInBounds_toArray, List.set_cons_zero, List.set_cons_succ])
        refine wpAnyH_take (i := 1) (v := ?_) rfl (by kernel_rfl) (by kernel_rfl) (by kernel_rfl) (fun _ _ _ h => h) (Or.inl ⟨by kernel_rfl, ?_⟩) (by exact hHeld) ?_
        rotate_left
        · (intro w hSw; clear hSw; go_simp; try with_reducible rfl)
        change wpAnyH _ _ _ _ _ _ _ (Act.put _ (some 65) _) _
        (try simp only [Act.put, List.setIfInBounds_toArray, List.set_cons_zero, List.set_cons_succ])
        refine wpAnyH_take (i := 2) (v := ?_) rfl (by kernel_rfl) (by kernel_rfl) (by kernel_rfl) (fun _ _ _ h => h) (Or.inl ⟨by kernel_rfl, ?_⟩) (by exact hHeld) ?_
        rotate_left
        · (intro w hSw; have hq := yk0.out w hSw; clear hSw; (try obtain ⟨hq, hq2, hq3⟩ := hq); go_simp; try with_reducible rfl)
        change wpAnyH _ _ _ _ _ _ _ (Act.put _ (some 66) _) _
        (try simp only [Act.put, List.setIfInBounds_toArray, List.set_cons_zero, List.set_cons_succ])
        refine wpAnyH_take (i := 3) (v := ?_) rfl (by kernel_rfl) (by kernel_rfl) (by kernel_rfl) (fun _ _ _ h => h) (Or.inl ⟨by kernel_rfl, ?_⟩) (by exact hHeld) ?_
        rotate_left
        · (intro w hSw; clear hSw; go_simp; try with_reducible rfl)
        change wpAnyH _ _ _ _ _ _ _ (Act.put _ (some 67) _) _
        (try simp only [Act.put, List.setIfInBounds_toArray, List.set_cons_zero, List.set_cons_succ])
        refine wpAnyH_all (rs := [4]) (by kernel_rfl) (by simp) ?_
        refine AllReadyH.cons rfl (fun K hK => ?_) ?_
        · (refine wp_store_op (.tmp 4) (.tmp 64) rfl g4 0 0 (.slice none 0 0) (.slice none 0 0) rfl rfl rfl rfl (by exact hOS.out) ?_; refine hK.out _ _ (Chg_setRow hHeld (.inl (by simp)) _) (fun hHeld => ?_); clear hK K)
          (try simp only [Act.put, List.setIfInBounds_toArray, List.set_cons_zero, List.set_cons_succ])
          (have hT := WS.chg (w := World.drew wv) hWS.out (Chg_setRow (Chg.refl [g4] (World.drew wv)) (g := g4) (.inl (by simp)) #[.int .i64 0, .int .i64 0, .slice none 0 0, .slice none 0 0]) (by simpa using hg45.out); obtain ⟨t0, t1⟩ := WS.c0 hT; have tf0 := WS.f0 hT 0; have tf1 := WS.f0 hT 1)
          refine wpAnyH_all (rs := [5]) (by kernel_rfl) (by simp) ?_
          refine AllReadyH.cons rfl (fun K hK => ?_) ?_
          · go_simp
            refine hK.out _ _ (by first | exact hHeld | exact Chg.trans hHeld (by assumption) | exact Chg.alloc hHeld _ | exact Chg.alloc hH9 _ | exact (Chg.setCell hHeld (.inr hge) _).setCell (.inr hge) _ | exact (Chg.setCell hHeld (.inl (by simp)) _).setCell (.inl (by simp)) _) (fun hHeld => ?_)
            clear hK K
            (try simp only [Act.put, List.setIfInBounds_toArray, List.set_cons_zero, List.set_cons_succ])
            refine wpAnyH_done (by kernel_rfl) ?_ _
            (try simp only [Act.put, List.setIfInBounds_toArray, List.set_cons_zero, List.set_cons_succ])
            go_wp2_with fail
            (try rw [Exit.noGoto_ret])
            obtain ⟨hF4, hF5, hCh⟩ := co_put (wv := World.drew wv) hOS.out hWS.out (fun e => hg45.out e.symm) 0 0 (.slice none 0 0) (.slice none 0 0) ((at_ : Nat) : Int) ((2 : Nat) : Int)
            have hCf := hCv.out.drew.then hCh (by intro x hx; simp at hx; have := hgl.out; rcases hx with rfl | rfl <;> right <;> omega)
            refine bodyPost_ret (v := .tuple #[.agg #[.int .i64 0, .int .i64 0, .slice none 0 0, .slice none 0 0], .agg #[.int .i64 ((at_ : Nat) : Int), .int .i64 ((2 : Nat) : Int)]]) ?_ rfl ⟨hCf, .inr ⟨at_, 2, hE.out, hq0.out, rfl⟩⟩
            exact results_cell_cell rfl _ _ _ _ 35 55 _ _ _ _ rfl rfl hF4 hF5 Try.underlying35 rfl (by kernel_rfl) Try.underlying55 rfl (by kernel_rfl)
          exact AllReadyH.nil
        exact AllReadyH.nil
      have hd2 : decide ((m1 : Int) > (Hi : Int)) = false := by simp; omega
      have hd2' : ¬ ((m1 : Int) > (Hi : Int)) := by omega
      rw [if_neg (by omega)] at hR2
      clear hlo hhi
      by_cases hk3 : K = 3
      · have hd3 : ((K : Int) != 3) = false := by simp; omega
        have hd8 : ((K : Int) == 8) = false := by rw [beq_eq_false_iff_ne]; omega
        have hR3 : (match argsA args with | .error b => .error b | .ok ws => expA at_ (armsGo rec ws.length ws [])) = R := by
          rw [if_neg (by omega), if_neg (fun h => h hk3)] at hR2
          rw [← hR2]
          cases argsA args with
          | error b => rfl
          | ok ws =>
            simp only
            cases armsGo rec ws.length ws [] with
            | error b => rfl
            | ok l => cases l <;> rfl
        have hwd1 : Wd L M args := hwd.out.tail
        obtain ⟨z2, hz2⟩ : ∃ z, (match args with | [a] => decide (a.kind = 2) | _ => false) = z := ⟨_, rfl⟩
        obtain ⟨Bc, hBc⟩ : ∃ Bc : Nat → Prop, (fun q => B q ∧ (q < w.heap.size ∨ w.heap.size + 3 ≤ q)) = Bc := ⟨_, rfl⟩
        have hW2 : WsV wv Bc A1 m1 c1 args := by rw [← hBc]; exact (hW1.out.imp (B' := fun q => B q ∧ (q < w.heap.size ∨ w.heap.size + 3 ≤ q)) (fun q hq hl => ⟨hq, .inl hl⟩)).chg hCv.out (fun _ _ _ => by simp)
        replace hR3 := Lib.hid hR3
        replace hwd1 := Lib.hid hwd1
        replace hz2 := Lib.hid hz2
        replace hW2 := Lib.hid hW2
        replace hBc := Lib.hid hBc
        clear hR2 hfb
        go_upto_region 14 with fail
        clear hk3 hd hd' hd2 hd2' hd3 hd8 e0 e1 e2 q0 q1 q2
        go_cut [100] (fun v100 wx => v100 = .bool z2 ∧ wx = wv)
        case first =>
          match args, hm1, hz2, hW2 with
          | [], hm1, hz2, hW2 =>
            obtain rfl : m1 = 0 := hm1.out.symm
            obtain rfl : z2 = false := hz2.out.symm
            go_wp2_with fail
            go_meet
            exact ⟨rfl, rfl⟩
          | a :: a2 :: r, hm1, hz2, hW2 =>
            have hmm : ((m1 : Int) == 1) = false := by have := hm1.out; simp only [List.length_cons] at this; rw [beq_eq_false_iff_ne]; omega
            obtain rfl : z2 = false := hz2.out.symm
            go_wp2_with fail
            go_meet
            exact ⟨rfl, rfl⟩
          | [a], hm1, hz2, hW2 =>
            obtain rfl : m1 = 1 := hm1.out.symm
            obtain ⟨b1, o1, Ap1, cp1, rfl, p0, p1, p2, hp1, hbk1, -⟩ := hW2.out.head
            have hzz : ((a.kind : Int) == 2) = z2 := by
              rw [← hz2.out]
              simp only
              by_cases h : a.kind = 2
              · rw [h]; rfl
              · rw [decide_eq_false h, beq_eq_false_iff_ne]; omega
            clear hp1 hbk1 p0 p2
            go_wp2_with fail
            go_meet
            exact ⟨rfl, rfl⟩
        case rest =>
        obtain ⟨rfl, hwc⟩ := hcut
        rw [hwc]
        clear hwc wc
        go_upto_if 100 with fail
        go_cut [10] (fun v10 wx => ∃ (ws : List Word) (A2 : Option Addr) (c2 : Nat), v10 = .slice A2 (List.length ws) c2 ∧ Hid (argsA args = .ok ws) ∧ Hid (WsV wx Bc A2 (List.length ws) c2 ws) ∧ Hid (Chg [] wv wx))
        case first =>
          cases z2 with
          | false =>
            have hA : Hid (argsA args = .ok args) := Lib.hid (by
              unfold argsA
              match args, hz2 with
              | [], _ => rfl
              | a :: a2 :: r, _ => rfl
              | [a], hz2 =>
                have h : ¬ a.kind = 2 := by have := hz2.out; simpa using this
                simp only; rw [if_neg h])
            go_wp2_with fail
            go_meet
            exact ⟨args, A1, c1, by rw [hm1.out], hA, by rw [hm1.out]; exact hW2, Lib.hid (Chg.refl _ _)⟩
          | true =>
            match args, hm1, hz2, hW2, hwd1, hR3 with
            | [], _, hz2, _, _, _ => exact absurd hz2.out (by simp)
            | _ :: _ :: _, _, hz2, _, _, _ => exact absurd hz2.out (by simp)
            | [a], hm1, hz2, hW2, hwd1, hR3 =>
              have hk2 : a.kind = 2 := by have := hz2.out; simpa using this
              obtain rfl : m1 = 1 := hm1.out.symm
              obtain ⟨hwa, hwb⟩ := hwd1.out a (by simp)
              obtain ⟨hwb1, hwb2⟩ := hwb hk2
              obtain ⟨b1, o1, Ap1, cp1, rfl, p0, p1, p2, hp1, hbk1, hpn1⟩ := hW2.out.head
              have hop := Lib.hid (fun W (hc : Chg [] wv W) => open_any W a Ap1 cp1 (hp1.chg hc (fun _ _ _ => by simp)) (by omega) hpn1)
              have hsc := Lib.hid (fun W => pparse_any W (openT a) (a.at_ + 1) (by omega) (by omega))
              have hBd : argsA [a] = match parseAt (openT a) (a.at_ + 1) with | .error b => .error b | .ok l => .ok (l.map Cmd.words).flatten := by unfold argsA; simp only; rw [if_pos hk2]; rfl
              have hfl : ∀ cs, parseAt (openT a) (a.at_ + 1) = .ok cs → (cs.map (fun c => c.words.length)).sum ≤ 16777216 := fun cs h => by have := flat_le h; omega
              obtain ⟨rr, hrr⟩ : ∃ rr, parseAt (openT a) (a.at_ + 1) = rr := ⟨_, rfl⟩
              rw [hrr] at hBd hfl
              have hsm := Lib.hid (fun W e w' (h : PpEnd W (openT a) (a.at_ + 1) e w') => h.some)
              rw [hrr] at hsm
              obtain ⟨Z, hZ⟩ : ∃ Z, bstr (openT a) = Z := ⟨_, rfl⟩
              rw [hZ] at hop hsc
              have hwr : IntKind.i64.wrap ((a.at_ : Int) + 1) = (a.at_ : Int) + 1 := IntWalk.i64_in _ (by omega)
              simp only [Int.natCast_add, Int.cast_ofNat_Int] at hsc
              unfold wordV at hop
              obtain ⟨np1, hnp1⟩ : ∃ np1, a.parts.length = np1 := ⟨_, rfl⟩
              rw [hnp1] at hop p2
              have y2 := Lib.hid (fun W (hc : Chg [] wv W) => (⟨hc.cell p0 (by simp), hc.cell p1 (by simp), hc.cell p2 (by simp)⟩ : W.cell? ⟨b1, o1, none⟩ = some (.int .i64 a.at_) ∧ W.cell? ⟨b1, o1 + 1, none⟩ = some (.int .i64 a.kind) ∧ W.cell? ⟨b1, o1 + 2, none⟩ = some (.slice Ap1 np1 cp1)))
              have y7 := Lib.hid (fun W (hc : Chg [] wv W) => hc.cell p0 (by simp))
              replace hBd := Lib.hid hBd
              replace hfl := Lib.hid hfl
              clear hp1 hbk1 p0 p1 p2 hrr hZ hnp1 hwa hwb hwb1 hwb2 hk2 hz2 hpn1
              go_upto_region 15 with fail
              go_cut [11, 12] (fun v11 v12 wx => ∃ (g : Nat) (V : Value) (pp qq : Nat), v11 = V ∧ v12 = .pointer (some ⟨g, 0, none⟩) ∧ wv.heap.size ≤ g ∧ Hid (WS wx g pp qq) ∧ Hid (PpO wx wv.heap.size g rr V pp qq) ∧ Hid (Chg [] wv wx))
              case first =>
                clear hL hM hn9 k0 k1 hat
                refine wp_region_held (S := fun w' => Chg [] wv w') (by kernel_rfl) ?_
                (try (change wpAnyH _ _ _ _ _ _ _ _ (World.drew _)))
                have hHeld : Chg [] wv (World.drew wv) := (Chg.refl _ _).drew
                refine wpAnyH_take (i := 0) (v := ?_) rfl (by kernel_rfl) (by kernel_rfl) (by kernel_rfl) (fun _ _ _ h => h) (Or.inl ⟨by kernel_rfl, ?_⟩) (by exact hHeld) ?_
                rotate_left
                · (intro w hSw; clear hSw; go_simp; try with_reducible rfl)
                change wpAnyH _ _ _ _ _ _ _ (Act.put _ (some 102) _) _
                (try simp only [Act.put, List.setIfInBounds_toArray, List.set_cons_zero, List.set_cons_succ])
                refine wpAnyH_take (i := 1) (v := ?_) rfl (by kernel_rfl) (by kernel_rfl) (by kernel_rfl) (fun _ _ _ h => h) (Or.inl ⟨by kernel_rfl, ?_⟩) (by exact hHeld) ?_
                rotate_left
                · (intro w hSw; have hq := y7.out w hSw; clear hSw; (try obtain ⟨hq, hq2, hq3⟩ := hq); go_simp; try with_reducible rfl)
                change wpAnyH _ _ _ _ _ _ _ (Act.put _ (some 103) _) _
                (try simp only [Act.put, List.setIfInBounds_toArray, List.set_cons_zero, List.set_cons_succ])
                refine wpAnyH_take (i := 2) (v := ?_) rfl (by kernel_rfl) (by kernel_rfl) (by kernel_rfl) (fun _ _ _ h => h) (Or.inl ⟨by kernel_rfl, ?_⟩) (by exact hHeld) ?_
                rotate_left
                · (intro w hSw; have hq := y2.out w hSw; clear hSw; (try obtain ⟨hq, hq2, hq3⟩ := hq); go_simp; try with_reducible rfl)
                change wpAnyH _ _ _ _ _ _ _ (Act.put _ (some 104) _) _
                (try simp only [Act.put, List.setIfInBounds_toArray, List.set_cons_zero, List.set_cons_succ])
                refine wpAnyH_take (i := 4) (v := ?_) rfl (by kernel_rfl) (by kernel_rfl) (by kernel_rfl) (fun _ _ _ h => h) (Or.inl ⟨by kernel_rfl, ?_⟩) (by exact hHeld) ?_
                rotate_left
                · (intro w hSw; clear hSw; go_simp; try with_reducible rfl)
                change wpAnyH _ _ _ _ _ _ _ (Act.put _ (some 106) _) _
                (try simp only [Act.put, List.setIfInBounds_toArray, List.set_cons_zero, List.set_cons_succ])
                refine wpAnyH_take (i := 5) (v := ?_) rfl (by kernel_rfl) (by kernel_rfl) (by kernel_rfl) (fun _ _ _ h => h) (Or.inl ⟨by kernel_rfl, ?_⟩) (by exact hHeld) ?_
                rotate_left
                · (intro w hSw; have hq := y7.out w hSw; clear hSw; (try obtain ⟨hq, hq2, hq3⟩ := hq); go_simp; try with_reducible rfl)
                change wpAnyH _ _ _ _ _ _ _ (Act.put _ (some 107) _) _
                (try simp only [Act.put, List.setIfInBounds_toArray, List.set_cons_zero, List.set_cons_succ])
                refine wpAnyH_take (i := 6) (v := ?_) rfl (by kernel_rfl) (by kernel_rfl) (by kernel_rfl) (fun _ _ _ h => h) (Or.inl ⟨by kernel_rfl, ?_⟩) (by exact hHeld) ?_
                rotate_left
                · (intro w hSw; clear hSw; go_simp; try with_reducible rfl)
                change wpAnyH _ _ _ _ _ _ _ (Act.put _ (some 108) _) _
                (try simp only [Act.put, List.setIfInBounds_toArray, List.set_cons_zero, List.set_cons_succ])
                refine wpAnyH_take (i := 7) (v := ?_) rfl (by kernel_rfl) (by kernel_rfl) (by kernel_rfl) (fun _ _ _ h => h) (Or.inl ⟨by kernel_rfl, ?_⟩) (by exact hHeld) ?_
                rotate_left
                · (intro w hSw; have hq := y7.out w hSw; clear hSw; (try obtain ⟨hq, hq2, hq3⟩ := hq); go_simp; try with_reducible rfl)
                change wpAnyH _ _ _ _ _ _ _ (Act.put _ (some 109) _) _
                (try simp only [Act.put, List.setIfInBounds_toArray, List.set_cons_zero, List.set_cons_succ])
                refine wpAnyH_take (i := 8) (v := ?_) rfl (by kernel_rfl) (by kernel_rfl) (by kernel_rfl) (fun _ _ _ h => h) (Or.inl ⟨by kernel_rfl, ?_⟩) (by exact hHeld) ?_
                rotate_left
                · (intro w hSw; clear hSw; go_simp; try with_reducible rfl)
                change wpAnyH _ _ _ _ _ _ _ (Act.put _ (some 110) _) _
                (try simp only [Act.put, List.setIfInBounds_toArray, List.set_cons_zero, List.set_cons_succ])
                refine wpAnyH_all (rs := [3, 13]) (by kernel_rfl) (by simp) ?_
                refine AllReadyH.cons rfl (fun K hK => ?_) ?_
                · go_simp
                  go_wp2_with (first
                      | (go_at_call 28; refine (hop.out _ (by exact hHeld)).mono ?_; rintro e w7 ⟨rfl, hC7⟩; (try replace hT := WS.chg hT hC7 (by simp)))
                      | (go_at_call 20; refine (hsc.out _).mono ?_; rintro e w9 h9; obtain ⟨hC10, V, pp, qq, rfl, hSc⟩ := hsm.out _ _ _ h9; (try replace hT := WS.chg hT hC10 (by simp))))
                  refine hK.out _ _ (by first | exact hHeld | exact Chg.trans hHeld (by assumption) | exact Chg.alloc hHeld _ | exact Chg.alloc hH9 _ | exact (Chg.setCell hHeld (.inr hge) _).setCell (.inr hge) _ | exact (Chg.setCell hHeld (.inl (by simp)) _).setCell (.inl (by simp)) _) (fun hHeld => ?_)
                  clear hK K
                  (try simp only [Act.put, List.setIfInBounds_toArray, List.set_cons_zero, List.set_cons_succ])
                  (have hH7 := hHeld; (try have hg7 := lt_heap hT))
                  refine wpAnyH_all (rs := [9, 13]) (by kernel_rfl) (by simp) ?_
                  refine AllReadyH.cons rfl (fun K hK => ?_) ?_
                  · go_simp
                    go_wp2_with (first
                        | (go_at_call 28; refine (hop.out _ (by exact hHeld)).mono ?_; rintro e w7 ⟨rfl, hC7⟩; (try replace hT := WS.chg hT hC7 (by simp)))
                        | (go_at_call 20; refine (hsc.out _).mono ?_; rintro e w9 h9; obtain ⟨hC10, V, pp, qq, rfl, hSc⟩ := hsm.out _ _ _ h9; (try replace hT := WS.chg hT hC10 (by simp))))
                    refine hK.out _ _ (by first | exact hHeld | exact Chg.trans hHeld (by assumption) | exact Chg.alloc hHeld _ | exact Chg.alloc hH9 _ | exact (Chg.setCell hHeld (.inr hge) _).setCell (.inr hge) _ | exact (Chg.setCell hHeld (.inl (by simp)) _).setCell (.inl (by simp)) _) (fun hHeld => ?_)
                    clear hK K
                    (try simp only [Act.put, List.setIfInBounds_toArray, List.set_cons_zero, List.set_cons_succ])
                    have hH9 := hHeld
                    refine wpAnyH_take (i := 10) (v := ?_) rfl (by kernel_rfl) (by kernel_rfl) (by kernel_rfl) (fun _ _ _ h => h) (Or.inl ⟨by kernel_rfl, ?_⟩) (by exact hHeld) ?_
                    rotate_left
                    · (intro w hSw; clear hSw; go_simp; try with_reducible rfl)
                    change wpAnyH _ _ _ _ _ _ _ (Act.put _ (some 101) _) _
                    (try simp only [Act.put, List.setIfInBounds_toArray, List.set_cons_zero, List.set_cons_succ])
                    refine wpAnyH_take (i := 11) (v := ?_) rfl (by kernel_rfl) (by kernel_rfl) (by kernel_rfl) (fun _ _ _ h => h) (Or.inl ⟨by kernel_rfl, ?_⟩) (by exact hHeld) ?_
                    rotate_left
                    · (intro w hSw; clear hSw; go_simp; try with_reducible rfl)
                    change wpAnyH _ _ _ _ _ _ _ (Act.put _ (some 112) _) _
                    (try simp only [Act.put, List.setIfInBounds_toArray, List.set_cons_zero, List.set_cons_succ])
                    refine wpAnyH_take (i := 12) (v := ?_) rfl (by kernel_rfl) (by kernel_rfl) (by kernel_rfl) (fun _ _ _ h => h) (Or.inl ⟨by kernel_rfl, ?_⟩) (by exact hHeld) ?_
                    rotate_left
                    · (intro w hSw; clear hSw; go_simp; try with_reducible rfl)
                    change wpAnyH _ _ _ _ _ _ _ (Act.put _ (some 113) _) _
                    (try simp only [Act.put, List.setIfInBounds_toArray, List.set_cons_zero, List.set_cons_succ])
                    refine wpAnyH_all (rs := [13]) (by kernel_rfl) (by simp) ?_
                    refine AllReadyH.cons rfl (fun K hK => ?_) ?_
                    · go_simp
                      refine hK.out _ _ (by first | exact hHeld | exact Chg.trans hHeld (by assumption) | exact Chg.alloc hHeld _ | exact Chg.alloc hH9 _ | exact (Chg.setCell hHeld (.inr hge) _).setCell (.inr hge) _ | exact (Chg.setCell hHeld (.inl (by simp)) _).setCell (.inl (by simp)) _) (fun hHeld => ?_)
                      clear hK K
                      (try simp only [Act.put, List.setIfInBounds_toArray, List.set_cons_zero, List.set_cons_succ])
                      (first | (have hT := (show WS (w9.alloc (.cells #[.int .i64 0, .int .i64 0] 55)) w9.heap.size 0 0 from blk_new _ _); have hge := hH9.size) | (have hT := (show WS (w7.alloc (.cells #[.int .i64 0, .int .i64 0] 55)) w7.heap.size 0 0 from blk_new _ _); have hge := hH7.size) | (have hT := (show WS ((World.drew wv).alloc (.cells #[.int .i64 0, .int .i64 0] 55)) wv.heap.size 0 0 from blk_new _ _); have hge : wv.heap.size ≤ wv.heap.size := Nat.le_refl _))
                      refine wpAnyH_take (i := 14) (v := ?_) rfl (by kernel_rfl) (by kernel_rfl) (by kernel_rfl) (fun _ _ _ h => h) (Or.inl ⟨by kernel_rfl, ?_⟩) (by exact hHeld) ?_
                      rotate_left
                      · (intro w hSw; clear hSw; go_simp; try with_reducible rfl)
                      change wpAnyH _ _ _ _ _ _ _ (Act.put _ (some 11) _) _
                      (try simp only [Act.put, List.setIfInBounds_toArray, List.set_cons_zero, List.set_cons_succ])
                      (obtain ⟨t0, t1⟩ := WS.c0 hT; have tf0 := WS.f0 hT 0; have tf1 := WS.f0 hT 1)
                      refine wpAnyH_all (rs := [15]) (by kernel_rfl) (by simp) ?_
                      refine AllReadyH.cons rfl (fun K hK => ?_) ?_
                      · go_simp
                        refine hK.out _ _ (by first | exact hHeld | exact Chg.trans hHeld (by assumption) | exact Chg.alloc hHeld _ | exact Chg.alloc hH9 _ | exact (Chg.setCell hHeld (.inr hge) _).setCell (.inr hge) _ | exact (Chg.setCell hHeld (.inl (by simp)) _).setCell (.inl (by simp)) _) (fun hHeld => ?_)
                        clear hK K
                        (try simp only [Act.put, List.setIfInBounds_toArray, List.set_cons_zero, List.set_cons_succ])
                        refine wpAnyH_done (by kernel_rfl) ?_ _
                        (try simp only [Act.put, List.setIfInBounds_toArray, List.set_cons_zero, List.set_cons_succ])
                        go_wp2_with fail
                        go_meet
                        have hb7 : wv.heap.size ≤ w7.heap.size := hH7.size
                        first
                        | exact ⟨w9.heap.size, V, pp, qq, rfl, rfl, hge, Lib.hid (blk_new _ _), Lib.hid (hSc _ _ [] _ hb7 ((Chg.refl [] w9).alloc _) (by simp) (.inr (Nat.le_refl _))), Lib.hid hHeld⟩
                        | exact ⟨w7.heap.size, V, pp, qq, rfl, rfl, hge, Lib.hid (hT.put _ _), Lib.hid (hSc _ _ [w7.heap.size] _ (by simp; omega) (((Chg.refl [w7.heap.size] w9).setCell (.inl (by simp)) _).setCell (.inl (by simp)) _) (by intro k hk; simp at hk; subst hk; left; simp) (.inl (by simp))), Lib.hid hHeld⟩
                        | exact ⟨wv.heap.size, V, pp, qq, rfl, rfl, hge, Lib.hid (hT.put _ _), Lib.hid (hSc _ _ [wv.heap.size] _ hb7 (((Chg.refl [wv.heap.size] w9).setCell (.inl (by simp)) _).setCell (.inl (by simp)) _) (by intro k hk; simp at hk; subst hk; exact .inl hg7) (.inl hg7)), Lib.hid hHeld⟩
                      exact AllReadyH.nil
                    exact AllReadyH.nil
                  refine AllReadyH.cons rfl (fun K hK => ?_) ?_
                  · go_simp
                    refine hK.out _ _ (by first | exact hHeld | exact Chg.trans hHeld (by assumption) | exact Chg.alloc hHeld _ | exact Chg.alloc hH9 _ | exact (Chg.setCell hHeld (.inr hge) _).setCell (.inr hge) _ | exact (Chg.setCell hHeld (.inl (by simp)) _).setCell (.inl (by simp)) _) (fun hHeld => ?_)
                    clear hK K
                    (try simp only [Act.put, List.setIfInBounds_toArray, List.set_cons_zero, List.set_cons_succ])
                    (first | (have hT := (show WS (w9.alloc (.cells #[.int .i64 0, .int .i64 0] 55)) w9.heap.size 0 0 from blk_new _ _); have hge := hH9.size) | (have hT := (show WS (w7.alloc (.cells #[.int .i64 0, .int .i64 0] 55)) w7.heap.size 0 0 from blk_new _ _); have hge := hH7.size) | (have hT := (show WS ((World.drew wv).alloc (.cells #[.int .i64 0, .int .i64 0] 55)) wv.heap.size 0 0 from blk_new _ _); have hge : wv.heap.size ≤ wv.heap.size := Nat.le_refl _))
                    refine wpAnyH_all (rs := [9]) (by kernel_rfl) (by simp) ?_
                    refine AllReadyH.cons rfl (fun K hK => ?_) ?_
                    · go_simp
                      go_wp2_with (first
                          | (go_at_call 28; refine (hop.out _ (by exact hHeld)).mono ?_; rintro e w7 ⟨rfl, hC7⟩; (try replace hT := WS.chg hT hC7 (by simp)))
                          | (go_at_call 20; refine (hsc.out _).mono ?_; rintro e w9 h9; obtain ⟨hC10, V, pp, qq, rfl, hSc⟩ := hsm.out _ _ _ h9; (try replace hT := WS.chg hT hC10 (by simp))))
                      refine hK.out _ _ (by first | exact hHeld | exact Chg.trans hHeld (by assumption) | exact Chg.alloc hHeld _ | exact Chg.alloc hH9 _ | exact (Chg.setCell hHeld (.inr hge) _).setCell (.inr hge) _ | exact (Chg.setCell hHeld (.inl (by simp)) _).setCell (.inl (by simp)) _) (fun hHeld => ?_)
                      clear hK K
                      (try simp only [Act.put, List.setIfInBounds_toArray, List.set_cons_zero, List.set_cons_succ])
                      have hH9 := hHeld
                      refine wpAnyH_take (i := 10) (v := ?_) rfl (by kernel_rfl) (by kernel_rfl) (by kernel_rfl) (fun _ _ _ h => h) (Or.inl ⟨by kernel_rfl, ?_⟩) (by exact hHeld) ?_
                      rotate_left
                      · (intro w hSw; clear hSw; go_simp; try with_reducible rfl)
                      change wpAnyH _ _ _ _ _ _ _ (Act.put _ (some 101) _) _
                      (try simp only [Act.put, List.setIfInBounds_toArray, List.set_cons_zero, List.set_cons_succ])
                      refine wpAnyH_take (i := 11) (v := ?_) rfl (by kernel_rfl) (by kernel_rfl) (by kernel_rfl) (fun _ _ _ h => h) (Or.inl ⟨by kernel_rfl, ?_⟩) (by exact hHeld) ?_
                      rotate_left
                      · (intro w hSw; clear hSw; go_simp; try with_reducible rfl)
                      change wpAnyH _ _ _ _ _ _ _ (Act.put _ (some 112) _) _
                      (try simp only [Act.put, List.setIfInBounds_toArray, List.set_cons_zero, List.set_cons_succ])
                      refine wpAnyH_take (i := 12) (v := ?_) rfl (by kernel_rfl) (by kernel_rfl) (by kernel_rfl) (fun _ _ _ h => h) (Or.inl ⟨by kernel_rfl, ?_⟩) (by exact hHeld) ?_
                      rotate_left
                      · (intro w hSw; clear hSw; go_simp; try with_reducible rfl)
                      change wpAnyH _ _ _ _ _ _ _ (Act.put _ (some 113) _) _
                      (try simp only [Act.put, List.setIfInBounds_toArray, List.set_cons_zero, List.set_cons_succ])
                      refine wpAnyH_take (i := 14) (v := ?_) rfl (by kernel_rfl) (by kernel_rfl) (by kernel_rfl) (fun _ _ _ h => h) (Or.inl ⟨by kernel_rfl, ?_⟩) (by exact hHeld) ?_
                      rotate_left
                      · (intro w hSw; clear hSw; go_simp; try with_reducible rfl)
                      change wpAnyH _ _ _ _ _ _ _ (Act.put _ (some 11) _) _
                      (try simp only [Act.put, List.setIfInBounds_toArray, List.set_cons_zero, List.set_cons_succ])
                      (obtain ⟨t0, t1⟩ := WS.c0 hT; have tf0 := WS.f0 hT 0; have tf1 := WS.f0 hT 1)
                      refine wpAnyH_all (rs := [15]) (by kernel_rfl) (by simp) ?_
                      refine AllReadyH.cons rfl (fun K hK => ?_) ?_
                      · go_simp
                        refine hK.out _ _ (by first | exact hHeld | exact Chg.trans hHeld (by assumption) | exact Chg.alloc hHeld _ | exact Chg.alloc hH9 _ | exact (Chg.setCell hHeld (.inr hge) _).setCell (.inr hge) _ | exact (Chg.setCell hHeld (.inl (by simp)) _).setCell (.inl (by simp)) _) (fun hHeld => ?_)
                        clear hK K
                        (try simp only [Act.put, List.setIfInBounds_toArray, List.set_cons_zero, List.set_cons_succ])
                        refine wpAnyH_done (by kernel_rfl) ?_ _
                        (try simp only [Act.put, List.setIfInBounds_toArray, List.set_cons_zero, List.set_cons_succ])
                        go_wp2_with fail
                        go_meet
                        have hb7 : wv.heap.size ≤ w7.heap.size := hH7.size
                        first
                        | exact ⟨w9.heap.size, V, pp, qq, rfl, rfl, hge, Lib.hid (blk_new _ _), Lib.hid (hSc _ _ [] _ hb7 ((Chg.refl [] w9).alloc _) (by simp) (.inr (Nat.le_refl _))), Lib.hid hHeld⟩
                        | exact ⟨w7.heap.size, V, pp, qq, rfl, rfl, hge, Lib.hid (hT.put _ _), Lib.hid (hSc _ _ [w7.heap.size] _ (by simp; omega) (((Chg.refl [w7.heap.size] w9).setCell (.inl (by simp)) _).setCell (.inl (by simp)) _) (by intro k hk; simp at hk; subst hk; left; simp) (.inl (by simp))), Lib.hid hHeld⟩
                        | exact ⟨wv.heap.size, V, pp, qq, rfl, rfl, hge, Lib.hid (hT.put _ _), Lib.hid (hSc _ _ [wv.heap.size] _ hb7 (((Chg.refl [wv.heap.size] w9).setCell (.inl (by simp)) _).setCell (.inl (by simp)) _) (by intro k hk; simp at hk; subst hk; exact .inl hg7) (.inl hg7)), Lib.hid hHeld⟩
                      exact AllReadyH.nil
                    exact AllReadyH.nil
                  exact AllReadyH.nil
                refine AllReadyH.cons rfl (fun K hK => ?_) ?_
                · go_simp
                  refine hK.out _ _ (by first | exact hHeld | exact Chg.trans hHeld (by assumption) | exact Chg.alloc hHeld _ | exact Chg.alloc hH9 _ | exact (Chg.setCell hHeld (.inr hge) _).setCell (.inr hge) _ | exact (Chg.setCell hHeld (.inl (by simp)) _).setCell (.inl (by simp)) _) (fun hHeld => ?_)
                  clear hK K
                  (try simp only [Act.put, List.setIfInBounds_toArray, List.set_cons_zero, List.set_cons_succ])
                  (first | (have hT := (show WS (w9.alloc (.cells #[.int .i64 0, .int .i64 0] 55)) w9.heap.size 0 0 from blk_new _ _); have hge := hH9.size) | (have hT := (show WS (w7.alloc (.cells #[.int .i64 0, .int .i64 0] 55)) w7.heap.size 0 0 from blk_new _ _); have hge := hH7.size) | (have hT := (show WS ((World.drew wv).alloc (.cells #[.int .i64 0, .int .i64 0] 55)) wv.heap.size 0 0 from blk_new _ _); have hge : wv.heap.size ≤ wv.heap.size := Nat.le_refl _))
                  refine wpAnyH_all (rs := [3]) (by kernel_rfl) (by simp) ?_
                  refine AllReadyH.cons rfl (fun K hK => ?_) ?_
                  · go_simp
                    go_wp2_with (first
                        | (go_at_call 28; refine (hop.out _ (by exact hHeld)).mono ?_; rintro e w7 ⟨rfl, hC7⟩; (try replace hT := WS.chg hT hC7 (by simp)))
                        | (go_at_call 20; refine (hsc.out _).mono ?_; rintro e w9 h9; obtain ⟨hC10, V, pp, qq, rfl, hSc⟩ := hsm.out _ _ _ h9; (try replace hT := WS.chg hT hC10 (by simp))))
                    refine hK.out _ _ (by first | exact hHeld | exact Chg.trans hHeld (by assumption) | exact Chg.alloc hHeld _ | exact Chg.alloc hH9 _ | exact (Chg.setCell hHeld (.inr hge) _).setCell (.inr hge) _ | exact (Chg.setCell hHeld (.inl (by simp)) _).setCell (.inl (by simp)) _) (fun hHeld => ?_)
                    clear hK K
                    (try simp only [Act.put, List.setIfInBounds_toArray, List.set_cons_zero, List.set_cons_succ])
                    (have hH7 := hHeld; (try have hg7 := lt_heap hT))
                    refine wpAnyH_all (rs := [9]) (by kernel_rfl) (by simp) ?_
                    refine AllReadyH.cons rfl (fun K hK => ?_) ?_
                    · go_simp
                      go_wp2_with (first
                          | (go_at_call 28; refine (hop.out _ (by exact hHeld)).mono ?_; rintro e w7 ⟨rfl, hC7⟩; (try replace hT := WS.chg hT hC7 (by simp)))
                          | (go_at_call 20; refine (hsc.out _).mono ?_; rintro e w9 h9; obtain ⟨hC10, V, pp, qq, rfl, hSc⟩ := hsm.out _ _ _ h9; (try replace hT := WS.chg hT hC10 (by simp))))
                      refine hK.out _ _ (by first | exact hHeld | exact Chg.trans hHeld (by assumption) | exact Chg.alloc hHeld _ | exact Chg.alloc hH9 _ | exact (Chg.setCell hHeld (.inr hge) _).setCell (.inr hge) _ | exact (Chg.setCell hHeld (.inl (by simp)) _).setCell (.inl (by simp)) _) (fun hHeld => ?_)
                      clear hK K
                      (try simp only [Act.put, List.setIfInBounds_toArray, List.set_cons_zero, List.set_cons_succ])
                      have hH9 := hHeld
                      refine wpAnyH_take (i := 10) (v := ?_) rfl (by kernel_rfl) (by kernel_rfl) (by kernel_rfl) (fun _ _ _ h => h) (Or.inl ⟨by kernel_rfl, ?_⟩) (by exact hHeld) ?_
                      rotate_left
                      · (intro w hSw; clear hSw; go_simp; try with_reducible rfl)
                      change wpAnyH _ _ _ _ _ _ _ (Act.put _ (some 101) _) _
                      (try simp only [Act.put, List.setIfInBounds_toArray, List.set_cons_zero, List.set_cons_succ])
                      refine wpAnyH_take (i := 11) (v := ?_) rfl (by kernel_rfl) (by kernel_rfl) (by kernel_rfl) (fun _ _ _ h => h) (Or.inl ⟨by kernel_rfl, ?_⟩) (by exact hHeld) ?_
                      rotate_left
                      · (intro w hSw; clear hSw; go_simp; try with_reducible rfl)
                      change wpAnyH _ _ _ _ _ _ _ (Act.put _ (some 112) _) _
                      (try simp only [Act.put, List.setIfInBounds_toArray, List.set_cons_zero, List.set_cons_succ])
                      refine wpAnyH_take (i := 12) (v := ?_) rfl (by kernel_rfl) (by kernel_rfl) (by kernel_rfl) (fun _ _ _ h => h) (Or.inl ⟨by kernel_rfl, ?_⟩) (by exact hHeld) ?_
                      rotate_left
                      · (intro w hSw; clear hSw; go_simp; try with_reducible rfl)
                      change wpAnyH _ _ _ _ _ _ _ (Act.put _ (some 113) _) _
                      (try simp only [Act.put, List.setIfInBounds_toArray, List.set_cons_zero, List.set_cons_succ])
                      refine wpAnyH_take (i := 14) (v := ?_) rfl (by kernel_rfl) (by kernel_rfl) (by kernel_rfl) (fun _ _ _ h => h) (Or.inl ⟨by kernel_rfl, ?_⟩) (by exact hHeld) ?_
                      rotate_left
                      · (intro w hSw; clear hSw; go_simp; try with_reducible rfl)
                      change wpAnyH _ _ _ _ _ _ _ (Act.put _ (some 11) _) _
                      (try simp only [Act.put, List.setIfInBounds_toArray, List.set_cons_zero, List.set_cons_succ])
                      (obtain ⟨t0, t1⟩ := WS.c0 hT; have tf0 := WS.f0 hT 0; have tf1 := WS.f0 hT 1)
                      refine wpAnyH_all (rs := [15]) (by kernel_rfl) (by simp) ?_
                      refine AllReadyH.cons rfl (fun K hK => ?_) ?_
                      · go_simp
                        refine hK.out _ _ (by first | exact hHeld | exact Chg.trans hHeld (by assumption) | exact Chg.alloc hHeld _ | exact Chg.alloc hH9 _ | exact (Chg.setCell hHeld (.inr hge) _).setCell (.inr hge) _ | exact (Chg.setCell hHeld (.inl (by simp)) _).setCell (.inl (by simp)) _) (fun hHeld => ?_)
                        clear hK K
                        (try simp only [Act.put, List.setIfInBounds_toArray, List.set_cons_zero, List.set_cons_succ])
                        refine wpAnyH_done (by kernel_rfl) ?_ _
                        (try simp only [Act.put, List.setIfInBounds_toArray, List.set_cons_zero, List.set_cons_succ])
                        go_wp2_with fail
                        go_meet
                        have hb7 : wv.heap.size ≤ w7.heap.size := hH7.size
                        first
                        | exact ⟨w9.heap.size, V, pp, qq, rfl, rfl, hge, Lib.hid (blk_new _ _), Lib.hid (hSc _ _ [] _ hb7 ((Chg.refl [] w9).alloc _) (by simp) (.inr (Nat.le_refl _))), Lib.hid hHeld⟩
                        | exact ⟨w7.heap.size, V, pp, qq, rfl, rfl, hge, Lib.hid (hT.put _ _), Lib.hid (hSc _ _ [w7.heap.size] _ (by simp; omega) (((Chg.refl [w7.heap.size] w9).setCell (.inl (by simp)) _).setCell (.inl (by simp)) _) (by intro k hk; simp at hk; subst hk; left; simp) (.inl (by simp))), Lib.hid hHeld⟩
                        | exact ⟨wv.heap.size, V, pp, qq, rfl, rfl, hge, Lib.hid (hT.put _ _), Lib.hid (hSc _ _ [wv.heap.size] _ hb7 (((Chg.refl [wv.heap.size] w9).setCell (.inl (by simp)) _).setCell (.inl (by simp)) _) (by intro k hk; simp at hk; subst hk; exact .inl hg7) (.inl hg7)), Lib.hid hHeld⟩
                      exact AllReadyH.nil
                    exact AllReadyH.nil
                  exact AllReadyH.nil
                exact AllReadyH.nil
              case rest =>
              obtain ⟨g, V, pp, qq, rfl, rfl, hge, hX, hSc, hC3⟩ := hcut
              obtain ⟨w3, rfl⟩ : ∃ w3, w3 = wc := ⟨_, rfl⟩
              clear hop hsc hsm y2 y7 hwr
              obtain ⟨x0, x1⟩ := hX.out.c0
              rcases hSc.out with ⟨cs, A5, c5, hl, rfl, rfl, rfl, hCm⟩ | ⟨hl, hq0, rfl⟩
              · obtain ⟨xs, hS, hBk, hcs⟩ := hCm
                have hA := Lib.hid (show argsA [a] = .ok (cs.map Cmd.words).flatten by rw [hBd.out, hl])
                have hsum := hfl.out cs hl
                have hw3 := hC3.out.size
                have hBq : ∀ q, wv.heap.size ≤ q → Bc q := fun q hq => by
                  rw [← hBc.out]
                  have h2 := hszv.out
                  exact ⟨hB.out q (by omega), .inr (by omega)⟩
                obtain ⟨n5, hn5⟩ : ∃ n5, List.length cs = n5 := ⟨_, rfl⟩
                rw [hn5] at hS hBk ⊢
                have hgw : ∀ i cm, cs[i]? = some cm → ∃ b5 o5 A6 c6 ys, A5 = some ⟨b5, o5, none⟩ ∧ w3.cell? ⟨b5, o5 + i * 2, none⟩ = some (.int .i64 cm.at_) ∧ w3.cell? ⟨b5, o5 + i * 2 + 1, none⟩ = some (.slice A6 cm.words.length c6) ∧ Sl w3 3 (.slice A6 cm.words.length c6) cm.words.length ys ∧ wordsC w3 (fun q => Bc q ∧ q < w3.heap.size) ys cm.words := fun i cm hcm => by
                  have hil := (List.getElem?_eq_some_iff.1 hcm).1
                  have hxl := hcs.len
                  obtain ⟨b5, o5, h1, h2⟩ := sl_row hS (by omega)
                  obtain ⟨A6, c6, ys, e1, e2, h3, -, h5⟩ := cmdsC.get hcs hcm
                  refine ⟨b5, o5, A6, c6, ys, h1, h2 _ _ e1, ?_, h3, wordsC.imp (fun q hq hl => ⟨hBq q hq.1, hl⟩) h5⟩
                  rw [Nat.add_assoc]; exact h2 _ _ e2
                have hnl : n5 ≤ 9223372036854775807 := by
                  obtain ⟨A0, cc0, e, j0, j1, j2, -⟩ := hS
                  simp only [Value.slice.injEq] at e
                  obtain ⟨-, -, rfl⟩ := e
                  unfold maxLen at j2; omega
                replace hgw := Lib.hid hgw
                replace hBq := Lib.hid hBq
                replace hn5 := Lib.hid hn5
                clear hl hR3 hBd hfl hSc hS hBk hcs hK0 hOS hWS hCv k0 k1 yk0 yk1 yq0 hm1 hwd1 hW2
                go_wp2_with fail
                go_loopg [10, 121] n5 (fun gk v10 v121 wr => ∃ (i : Nat) (A6 : Option Addr) (c6 : Nat) (acc : List Word) (ys : List Value), v10 = .slice A6 (List.length acc) c6 ∧ v121 = .int .i64 i ∧ i ≤ n5 ∧ gk = n5 - i ∧ Hid (acc = ((cs.take i).map Cmd.words).flatten) ∧ Hid (wr.ownsRow w3.heap.size 38 3 (.slice A6 (List.length acc) c6) (List.length acc) ys) ∧ Hid (wordsC wr (fun q => Bc q ∧ q < w3.heap.size) ys acc) ∧ Hid (Chg [] w3 wr))
                case atStart => exact ⟨0, none, 0, [], [], rfl, rfl, by omega, rfl, Lib.hid rfl, Lib.hid (World.ownsRow_nil _ _ _ _), Lib.hid rfl, Lib.hid (Chg.refl _ _)⟩
                case round =>
                  obtain ⟨i, A6, c6, acc, ys, rfl, rfl, hi, rfl, hacc, hO, hwC, hCr⟩ := hrel
                  clear x0 x1
                  by_cases hlt : i < n5
                  · obtain ⟨cm, hcm⟩ : ∃ cm, cs[i]? = some cm := ⟨_, List.getElem?_eq_getElem (by have := hn5.out; omega)⟩
                    obtain ⟨b5, o5, A7, c7, ys7, rfl, u0, u1, hS7, hw7⟩ := hgw.out i cm hcm
                    have hacc2 := flat_succ hcm
                    rw [← hacc.out] at hacc2
                    have hbnd : List.length acc + cm.words.length ≤ 16777216 := by
                      have h1 := congrArg List.length hacc2
                      rw [flat_len, List.length_append] at h1
                      have h2 := sum_take_le (fun c => c.words.length) cs (i + 1)
                      omega
                    obtain ⟨m7, hm7⟩ : ∃ m7, List.length cm.words = m7 := ⟨_, rfl⟩
                    rw [hm7] at u1 hS7 hbnd
                    replace u0 := hCr.out.cell u0 (by simp)
                    replace u1 := hCr.out.cell u1 (by simp)
                    have hC8 := (Chg.refl [] wr).alloc (.cells #[.int .i64 cm.at_, .slice A7 m7 c7] 69)
                    have hS8 := Lib.hid ((hS7.chg hCr.out (fun _ _ _ => by simp)).chg hC8 (fun _ _ _ => by simp))
                    have hone := Lib.hid hw7.one
                    replace hw7 := Lib.hid (wordsC.chg hCr.out (fun _ _ _ => by simp) hw7)
                    have hszr := hCr.out.size
                    replace hacc2 := Lib.hid hacc2
                    replace hm7 := Lib.hid hm7
                    clear hS7 hC8 hcm
                    go_wp2_with (at_builtin; refine wpList_append_sl rfl (.tmp 125) (.tmp 127) 32 rfl w3.heap.size 38 (.agg #[.int .i64 0, .int .i64 0, .slice none 0 0]) 3 40 Try.underlying32 Try.info_word' rfl (by decide) _ (List.length acc) ys rfl (hO.out.alloc _) _ m7 ys7 rfl hS8.out hone.out (List.length acc + m7) rfl (by omega) (by decide) (by simp; omega) ?_)
                    intro A' c' w5 hO' hCh hat
                    have hCh2 : Chg (Value.slice A6 (List.length acc) c6).ownBlock.toList wr w5 := ((Chg.refl _ wr).alloc _).trans hCh
                    have hoff : ∀ q, q < w3.heap.size → q ∉ (Value.slice A6 (List.length acc) c6).ownBlock.toList := fun q hq hm => by
                      have := (hO.out.lt q (by simpa using hm)).1
                      omega
                    have hw9 := Lib.hid ((wordsC.chg hCh2 (fun q hq _ => hoff q hq.2) hwC.out).append (wordsC.chg hCh2 (fun q hq _ => hoff q hq.2) hw7.out))
                    have hC9 := Lib.hid (hCr.out.then hCh2 (fun q hq => .inr (hO.out.lt q (by simpa using hq)).1))
                    replace hO' := Lib.hid hO'
                    have hll : List.length acc + m7 = List.length (acc ++ cm.words) := by rw [List.length_append, hm7.out]
                    clear hCh hat hCh2 hoff hw7 hwC u0 u1 hS8 hone
                    go_wp2_with fail
                    go_roundg (n5 - (i + 1))
                    case measure => omega
                    case rel => exact ⟨i + 1, A', c', acc ++ cm.words, ys ++ ys7, by rw [hll], rfl, by omega, rfl, Lib.hid hacc2.out.symm, by rw [← hll]; exact hO', hw9, hC9⟩
                  · obtain rfl : i = n5 := by omega
                    have hacc3 := hacc.out
                    rw [List.take_of_length_le (by have := hn5.out; omega)] at hacc3
                    subst hacc3
                    go_wp2_with fail
                    go_meet
                    exact ⟨_, A6, c6, rfl, hA, Lib.hid ⟨rfl, ys, own_sl hO.out, fun q _ hq => ⟨hBq.out q (by have := (hO.out.lt q hq).1; omega), (hO.out.lt q hq).2⟩, wordsC.imp (fun q hq _ => hq.1) hwC.out⟩, Lib.hid (hC3.out.trans hCr.out)⟩
              · have hE : Hid (R = .error (pp, qq)) := Lib.hid (by have := hR3.out; rw [hBd.out, hl] at this; exact this.symm)
                have hne5 : ((qq : Int) != 0) = true := by simp; omega
                replace hq0 := Lib.hid hq0
                replace hOS := Lib.hid (hOS.out.chg hC3.out (by simp))
                replace hWS := Lib.hid (hWS.out.chg hC3.out (by simp))
                replace hCv := Lib.hid (hCv.out.trans hC3.out)
                have hge4 : Hid (¬ (g = g4) ∧ ¬ (g = g5)) := Lib.hid (by have h2 := hszv.out; have h4 := hgl.out; omega)
                have y16 := Lib.hid (fun W (hc : Chg [g4, g5] w3 W) => (⟨hc.cell x0 (by have := hge4.out; simp; omega), hc.cell x1 (by have := hge4.out; simp; omega), trivial⟩ : W.cell? ⟨g, 0, none⟩ = some (.int .i64 pp) ∧ W.cell? ⟨g, 1, none⟩ = some (.int .i64 qq) ∧ True))
                clear hl hR3 hBd hfl hSc k0 k1 yk0 yk1 yq0
                go_upto_region 17 with fail
                clear x0 x1
                refine wp_region_held (S := fun w' => Chg [g4, g5] w3 w') (by kernel_rfl) ?_
                (try (change wpAnyH _ _ _ _ _ _ _ _ (World.drew _)))
                have hHeld : Chg [g4, g5] w3 (World.drew w3) := (Chg.refl _ _).drew
                refine wpAnyH_take (i := 0) (v := ?_) rfl (by kernel_rfl) (by kernel_rfl) (by kernel_rfl) (fun _ _ _ h => h) (Or.inl ⟨by kernel_rfl, ?_⟩) (by exact hHeld) ?_
                rotate_left
                · (intro w hSw; clear hSw; go_simp; try with_reducible rfl)
                change wpAnyH _ _ _ _ _ _ _ (Act.put _ (some 117) _) _
                (try simp only [Act.put, List.setIfInBounds_toArray, List.set_cons_zero, List.set_cons_succ])
                refine wpAnyH_take (i := 1) (v := ?_) rfl (by kernel_rfl) (by kernel_rfl) (by kernel_rfl) (fun _ _ _ h => h) (Or.inl ⟨by kernel_rfl, ?_⟩) (by exact hHeld) ?_
                rotate_left
                · (intro w hSw; have hq := y16.out w hSw; clear hSw; (try obtain ⟨hq, hq2, hq3⟩ := hq); go_simp; try with_reducible rfl)
                change wpAnyH _ _ _ _ _ _ _ (Act.put _ (some 118) _) _
                (try simp only [Act.put, List.setIfInBounds_toArray, List.set_cons_zero, List.set_cons_succ])
                refine wpAnyH_all (rs := [2]) (by kernel_rfl) (by simp) ?_
                refine AllReadyH.cons rfl (fun K hK => ?_) ?_
                · (refine wp_store_op (.tmp 4) (.tmp 117) rfl g4 0 0 (.slice none 0 0) (.slice none 0 0) rfl rfl rfl rfl (by exact hOS.out) ?_; refine hK.out _ _ (Chg_setRow hHeld (.inl (by simp)) _) (fun hHeld => ?_); clear hK K)
                  (try simp only [Act.put, List.setIfInBounds_toArray, List.set_cons_zero, List.set_cons_succ])
                  (have hT := WS.chg (w := World.drew w3) hWS.out (Chg_setRow (Chg.refl [g4] (World.drew w3)) (g := g4) (.inl (by simp)) #[.int .i64 0, .int .i64 0, .slice none 0 0, .slice none 0 0]) (by simpa using hg45.out); obtain ⟨t0, t1⟩ := WS.c0 hT; have tf0 := WS.f0 hT 0; have tf1 := WS.f0 hT 1)
                  refine wpAnyH_all (rs := [3]) (by kernel_rfl) (by simp) ?_
                  refine AllReadyH.cons rfl (fun K hK => ?_) ?_
                  · go_simp
                    refine hK.out _ _ (by first | exact hHeld | exact Chg.trans hHeld (by assumption) | exact Chg.alloc hHeld _ | exact Chg.alloc hH9 _ | exact (Chg.setCell hHeld (.inr hge) _).setCell (.inr hge) _ | exact (Chg.setCell hHeld (.inl (by simp)) _).setCell (.inl (by simp)) _) (fun hHeld => ?_)
                    clear hK K
                    (try simp only [Act.put, List.setIfInBounds_toArray, List.set_cons_zero, List.set_cons_succ])
                    refine wpAnyH_done (by kernel_rfl) ?_ _
                    (try simp only [Act.put, List.setIfInBounds_toArray, List.set_cons_zero, List.set_cons_succ])
                    go_wp2_with fail
                    (try rw [Exit.noGoto_ret])
                    obtain ⟨hF4, hF5, hCh⟩ := co_put (wv := World.drew w3) hOS.out hWS.out (fun e => hg45.out e.symm) 0 0 (.slice none 0 0) (.slice none 0 0) ((pp : Nat) : Int) ((qq : Nat) : Int)
                    have hCf := hCv.out.drew.then hCh (by intro x hx; simp at hx; have := hgl.out; rcases hx with rfl | rfl <;> right <;> omega)
                    refine bodyPost_ret (v := .tuple #[.agg #[.int .i64 0, .int .i64 0, .slice none 0 0, .slice none 0 0], .agg #[.int .i64 ((pp : Nat) : Int), .int .i64 ((qq : Nat) : Int)]]) ?_ rfl ⟨hCf, .inr ⟨pp, qq, hE.out, hq0.out, rfl⟩⟩
                    exact results_cell_cell rfl _ _ _ _ 35 55 _ _ _ _ rfl rfl hF4 hF5 Try.underlying35 rfl (by kernel_rfl) Try.underlying55 rfl (by kernel_rfl)
                  exact AllReadyH.nil
                exact AllReadyH.nil
        case rest =>
        obtain ⟨ws, A2, c2, rfl, hAr, hW3, hC4⟩ := hcut
        obtain ⟨w3, rfl⟩ : ∃ w3, w3 = wc := ⟨_, rfl⟩
        have hwd3 := argsA_wd hwd1.out hAr.out
        have hR4 : expA at_ (armsGo rec ws.length ws []) = R := by have := hR3.out; rw [hAr.out] at this; exact this
        obtain ⟨m3, hm3⟩ : ∃ m3, List.length ws = m3 := ⟨_, rfl⟩
        rw [hm3] at hW3 hR4 ⊢
        have hli := list_any rec L M hrec.out hL hM w3 Bc A2 m3 c2 ws hW3.out hwd3 (fun q hq => by
          rw [← hBc.out]
          have h1 := hC4.out.size
          have h2 := hszv.out
          exact ⟨hB.out q (by omega), .inr (by omega)⟩)
        obtain ⟨rr, hrr⟩ : ∃ rr, armsGo rec m3 ws [] = rr := ⟨_, rfl⟩
        rw [hrr] at hli hR4
        unfold LiEnd at hli
        replace hli := Lib.hid hli
        replace hR4 := Lib.hid hR4
        replace hK0 := Lib.hid (hK0.out.chg hC4.out (by simp))
        replace hOS := Lib.hid (hOS.out.chg hC4.out (by simp))
        replace hWS := Lib.hid (hWS.out.chg hC4.out (by simp))
        have hCw := Lib.hid (hCv.out.trans hC4.out)
        replace hm3 := Lib.hid hm3
        clear hrr hR3 hwd3 hwd1 hAr hW3 hz2 k0 k1
        go_wp2_with fail
        refine (hli.out).mono ?_
        rintro e w4 ⟨hC5, hcase⟩
        replace hK0 := Lib.hid (hK0.out.chg hC5 (by simp))
        replace hOS := Lib.hid (hOS.out.chg hC5 (by simp))
        replace hWS := Lib.hid (hWS.out.chg hC5 (by simp))
        replace hCw := Lib.hid (hCw.out.trans hC5)
        have hCx := Lib.hid hC5
        clear hli hC5
        have hsz4 := hCw.out.size
        have hpost : ∀ (p5 q5 : Nat), Hid (CS (w4.alloc (.cells #[.int .i64 p5, .int .i64 q5] 55)) g0 (.int .i64 at_) (.slice (some ⟨b, o, none⟩) n cc)) ∧ Hid (OS (w4.alloc (.cells #[.int .i64 p5, .int .i64 q5] 55)) g4 0 0 (.slice none 0 0) (.slice none 0 0)) ∧ Hid (WS (w4.alloc (.cells #[.int .i64 p5, .int .i64 q5] 55)) g5 0 0) ∧ Hid (Chg [] w (w4.alloc (.cells #[.int .i64 p5, .int .i64 q5] 55))) ∧ Hid (WS (w4.alloc (.cells #[.int .i64 p5, .int .i64 q5] 55)) w4.heap.size p5 q5) ∧ Hid (Chg [] w4 (w4.alloc (.cells #[.int .i64 p5, .int .i64 q5] 55))) := fun p5 q5 => by
          have hc := (Chg.refl [] w4).alloc (.cells #[.int .i64 p5, .int .i64 q5] 55)
          exact ⟨Lib.hid (hK0.out.chg hc (by simp)), Lib.hid (hOS.out.chg hc (by simp)), Lib.hid (hWS.out.chg hc (by simp)), Lib.hid (hCw.out.trans hc), Lib.hid (blk_new _ _), Lib.hid hc⟩
        have hge4 : Hid (¬ (w4.heap.size = g4) ∧ ¬ (w4.heap.size = g5)) := Lib.hid (by have h1 := hC4.out.size; have h2 := hszv.out; have h3 := hCx.out.size; have h4 := hgl.out; omega)
        clear hK0 hOS hWS hCv
        rcases hcase with ⟨l, A5, c5, zs, rfl, rfl, hSl, hBk, hAr⟩ | ⟨p5, q5, rfl, hq5, rfl⟩
        · obtain ⟨hK0, hOS, hWS, hCv, hX, hc4⟩ := hpost 0 0
          replace hSl := Lib.hid hSl
          replace hBk := Lib.hid hBk
          replace hAr := Lib.hid hAr
          clear hpost hCw
          cases l with
          | nil =>
            have hE : Hid (R = .error (at_, 2)) := Lib.hid hR4.out.symm
            have hq0 : Hid ((2 : Nat) ≠ 0) := Lib.hid (by decide)
            go_upto_region 28 with fail
            generalize hwz : w4.alloc _ = wz at hK0 hOS hWS hCv hX hc4 ⊢
            clear hwz
            obtain ⟨k0, k1⟩ := hK0.out.c0
            have yk0 := Lib.hid (fun W (hc : Chg [g4, g5] wz W) => hc.cell k0 (by have := hgl.out; simp; omega))
            clear k0 k1 yk1 yq0
            refine wp_region_held (S := fun w' => Chg [g4, g5] wz w') (by kernel_rfl) ?_
            (try (change wpAnyH _ _ _ _ _ _ _ _ (World.drew _)))
            have hHeld : Chg [g4, g5] wz (World.drew wz) := (Chg.refl _ _).drew
            refine wpAnyH_take (i := 0) (v := ?_) rfl (by kernel_rfl) (by kernel_rfl) (by kernel_rfl) (fun _ _ _ h => h) (Or.inl ⟨by kernel_rfl, ?_⟩) (by exact hHeld) ?_
            rotate_left
            · (intro w hSw; clear hSw; go_simp; try with_reducible rfl)
            change wpAnyH _ _ _ _ _ _ _ (Act.put _ (some 145) _) _
            (try simp only [Act.put, List.setIfInBounds_toArray, List.set_cons_zero, List.set_cons_succ])
            refine wpAnyH_take (i := 1) (v := ?_) rfl (by kernel_rfl) (by kernel_rfl) (by kernel_rfl) (fun _ _ _ h => h) (Or.inl ⟨by kernel_rfl, ?_⟩) (by exact hHeld) ?_
            rotate_left
            · (intro w hSw; clear hSw; go_simp; try with_reducible rfl)
            change wpAnyH _ _ _ _ _ _ _ (Act.put _ (some 146) _) _
            (try simp only [Act.put, List.setIfInBounds_toArray, List.set_cons_zero, List.set_cons_succ])
            refine wpAnyH_take (i := 2) (v := ?_) rfl (by kernel_rfl) (by kernel_rfl) (by kernel_rfl) (fun _ _ _ h => h) (Or.inl ⟨by kernel_rfl, ?_⟩) (by exact hHeld) ?_
            rotate_left
            · (intro w hSw; have hq := yk0.out w hSw; clear hSw; (try obtain ⟨hq, hq2, hq3⟩ := hq); go_simp; try with_reducible rfl)
            change wpAnyH _ _ _ _ _ _ _ (Act.put _ (some 147) _) _
            (try simp only [Act.put, List.setIfInBounds_toArray, List.set_cons_zero, List.set_cons_succ])
            refine wpAnyH_take (i := 3) (v := ?_) rfl (by kernel_rfl) (by kernel_rfl) (by kernel_rfl) (fun _ _ _ h => h) (Or.inl ⟨by kernel_rfl, ?_⟩) (by exact hHeld) ?_
            rotate_left
            · (intro w hSw; clear hSw; go_simp; try with_reducible rfl)
            change wpAnyH _ _ _ _ _ _ _ (Act.put _ (some 148) _) _
            (try simp only [Act.put, List.setIfInBounds_toArray, List.set_cons_zero, List.set_cons_succ])
            refine wpAnyH_all (rs := [4]) (by kernel_rfl) (by simp) ?_
            refine AllReadyH.cons rfl (fun K hK => ?_) ?_
            · (refine wp_store_op (.tmp 4) (.tmp 145) rfl g4 0 0 (.slice none 0 0) (.slice none 0 0) rfl rfl rfl rfl (by exact hOS.out) ?_; refine hK.out _ _ (Chg_setRow hHeld (.inl (by simp)) _) (fun hHeld => ?_); clear hK K)
              (try simp only [Act.put, List.setIfInBounds_toArray, List.set_cons_zero, List.set_cons_succ])
              (have hT := WS.chg (w := World.drew wz) hWS.out (Chg_setRow (Chg.refl [g4] (World.drew wz)) (g := g4) (.inl (by simp)) #[.int .i64 0, .int .i64 0, .slice none 0 0, .slice none 0 0]) (by simpa using hg45.out); obtain ⟨t0, t1⟩ := WS.c0 hT; have tf0 := WS.f0 hT 0; have tf1 := WS.f0 hT 1)
              refine wpAnyH_all (rs := [5]) (by kernel_rfl) (by simp) ?_
              refine AllReadyH.cons rfl (fun K hK => ?_) ?_
              · go_simp
                refine hK.out _ _ (by first | exact hHeld | exact Chg.trans hHeld (by assumption) | exact Chg.alloc hHeld _ | exact Chg.alloc hH9 _ | exact (Chg.setCell hHeld (.inr hge) _).setCell (.inr hge) _ | exact (Chg.setCell hHeld (.inl (by simp)) _).setCell (.inl (by simp)) _) (fun hHeld => ?_)
                clear hK K
                (try simp only [Act.put, List.setIfInBounds_toArray, List.set_cons_zero, List.set_cons_succ])
                refine wpAnyH_done (by kernel_rfl) ?_ _
                (try simp only [Act.put, List.setIfInBounds_toArray, List.set_cons_zero, List.set_cons_succ])
                go_wp2_with fail
                (try rw [Exit.noGoto_ret])
                obtain ⟨hF4, hF5, hCh⟩ := co_put (wv := World.drew wz) hOS.out hWS.out (fun e => hg45.out e.symm) 0 0 (.slice none 0 0) (.slice none 0 0) ((at_ : Nat) : Int) ((2 : Nat) : Int)
                have hCf := hCv.out.drew.then hCh (by intro x hx; simp at hx; have := hgl.out; rcases hx with rfl | rfl <;> right <;> omega)
                refine bodyPost_ret (v := .tuple #[.agg #[.int .i64 0, .int .i64 0, .slice none 0 0, .slice none 0 0], .agg #[.int .i64 ((at_ : Nat) : Int), .int .i64 ((2 : Nat) : Int)]]) ?_ rfl ⟨hCf, .inr ⟨at_, 2, hE.out, hq0.out, rfl⟩⟩
                exact results_cell_cell rfl _ _ _ _ 35 55 _ _ _ _ rfl rfl hF4 hF5 Try.underlying35 rfl (by kernel_rfl) Try.underlying55 rfl (by kernel_rfl)
              exact AllReadyH.nil
            exact AllReadyH.nil
          | cons a5 r5 =>
            have hE : Hid (R = .ok (.mk 3 at_ [] (a5 :: r5))) := Lib.hid hR4.out.symm
            obtain ⟨m5, hm5⟩ : ∃ m5, List.length (a5 :: r5) = m5 := ⟨_, rfl⟩
            rw [hm5] at hSl hBk ⊢
            have hm50 : ((m5 : Int) == 0) = false := by simp only [List.length_cons] at hm5; rw [beq_eq_false_iff_ne]; omega
            replace hm5 := Lib.hid hm5
            go_upto_region 29 with fail
            generalize hwz : w4.alloc _ = wz at hK0 hOS hWS hCv hX hc4 ⊢
            clear hwz
            obtain ⟨k0, k1⟩ := hK0.out.c0
            have hP := Lib.hid (co_put hOS.out hWS.out (fun e => hg45.out e.symm) 3 at_ (.slice none 0 0) (.slice A5 m5 c5) 0 0)
            have hT := WS.chg (w := wz) hWS.out (Chg_setRow (Chg.refl [g4] wz) (g := g4) (.inl (by simp)) #[.int .i64 3, .int .i64 at_, .slice none 0 0, .slice A5 m5 c5]) (by simpa using hg45.out)
            obtain ⟨t0, t1⟩ := WS.c0 hT
            have tf0 := WS.f0 hT 0
            have tf1 := WS.f0 hT 1
            have hT' := Lib.hid hT
            clear hT
            have hfin : Hid (∀ wx, Chg [g4, g5] wz wx → opC wx B [.int .i64 3, .int .i64 at_, .slice none 0 0, .slice A5 m5 c5] (.mk 3 at_ [] (a5 :: r5))) := Lib.hid (fun wx hc => by
              have hoff : ∀ q, Bc q → q ∉ [g4, g5] := fun q hq hm => by
                rw [← hBc.out] at hq
                have h1 := hq.2
                have h2 := hgl.out
                simp at hm; omega
              have j1 := hSl.out.chg hc4.out (fun _ _ _ => by simp)
              have j2 := hBk.out.chg hc4.out
              have j3 := armsC.chg hc4.out (fun _ _ _ => by simp) _ _ hAr.out
              have hto : ∀ q, Bc q → B q := fun q hq => by rw [← hBc.out] at hq; exact hq.1
              rw [opC]
              refine ⟨none, 0, A5, c5, [], zs, by rw [hm5.out]; rfl, ⟨Sl.nil _ _, fun q h0 => absurd h0 (by decide), rfl⟩, ?_, ?_, ?_⟩
              · rw [hm5.out]; exact j1.chg hc (fun h0 q hq => hoff q (j2 q (by have := j1.len; omega) hq).1)
              · rw [hm5.out]; exact (j2.chg hc).imp (fun q hq _ => hto q hq)
              · exact armsC.imp (fun q hq _ => hto q hq) _ _ (armsC.chg hc (fun q hq _ => hoff q hq) _ _ j3))
            clear hAr hSl hBk hc4 yk1 yq0
            go_wp2_with (refine wpList_store_op rfl (.tmp 4) (.tmp 152) rfl g4 3 at_ (.slice none 0 0) (.slice A5 m5 c5) rfl rfl rfl rfl hOS.out ?_)
            (try rw [Exit.noGoto_ret])
            obtain ⟨hF4, hF5, hCh⟩ := hP.out
            have hCf := hCv.out.then hCh (by intro x hx; simp at hx; have := hgl.out; rcases hx with rfl | rfl <;> right <;> omega)
            refine bodyPost_ret (v := .tuple #[.agg #[.int .i64 3, .int .i64 at_, .slice none 0 0, .slice A5 m5 c5], .agg #[.int .i64 0, .int .i64 0]]) ?_ rfl ⟨hCf, .inl ⟨.mk 3 at_ [] (a5 :: r5), .int .i64 3, .int .i64 at_, .slice none 0 0, .slice A5 m5 c5, hE.out, rfl, hfin.out _ hCh⟩⟩
            exact results_cell_cell rfl _ _ _ _ 35 55 _ _ _ _ rfl rfl hF4 hF5 Try.underlying35 rfl (by kernel_rfl) Try.underlying55 rfl (by kernel_rfl)
        · obtain ⟨hK0, hOS, hWS, hCv, hX, hc4⟩ := hpost p5 q5
          have hE : Hid (R = .error (p5, q5)) := Lib.hid hR4.out.symm
          have hq0 : Hid (q5 ≠ 0) := Lib.hid hq5
          have hne5 : ((q5 : Int) != 0) = true := by simp; omega
          clear hpost hCw hq5
          go_upto_region 26 with fail
          generalize hwz : w4.alloc _ = wz at hK0 hOS hWS hCv hX hc4 ⊢
          clear hwz
          obtain ⟨x0, x1⟩ := hX.out.c0
          have y16 := Lib.hid (fun W (hc : Chg [g4, g5] wz W) => (⟨hc.cell x0 (by have := hge4.out; simp; omega), hc.cell x1 (by have := hge4.out; simp; omega), trivial⟩ : W.cell? ⟨w4.heap.size, 0, none⟩ = some (.int .i64 p5) ∧ W.cell? ⟨w4.heap.size, 1, none⟩ = some (.int .i64 q5) ∧ True))
          clear x0 x1 yk0 yk1 yq0
          refine wp_region_held (S := fun w' => Chg [g4, g5] wz w') (by kernel_rfl) ?_
          (try (change wpAnyH _ _ _ _ _ _ _ _ (World.drew _)))
          have hHeld : Chg [g4, g5] wz (World.drew wz) := (Chg.refl _ _).drew
          refine wpAnyH_take (i := 0) (v := ?_) rfl (by kernel_rfl) (by kernel_rfl) (by kernel_rfl) (fun _ _ _ h => h) (Or.inl ⟨by kernel_rfl, ?_⟩) (by exact hHeld) ?_
          rotate_left
          · (intro w hSw; clear hSw; go_simp; try with_reducible rfl)
          change wpAnyH _ _ _ _ _ _ _ (Act.put _ (some 139) _) _
          (try simp only [Act.put, List.setIfInBounds_toArray, List.set_cons_zero, List.set_cons_succ])
          refine wpAnyH_take (i := 1) (v := ?_) rfl (by kernel_rfl) (by kernel_rfl) (by kernel_rfl) (fun _ _ _ h => h) (Or.inl ⟨by kernel_rfl, ?_⟩) (by exact hHeld) ?_
          rotate_left
          · (intro w hSw; have hq := y16.out w hSw; clear hSw; (try obtain ⟨hq, hq2, hq3⟩ := hq); go_simp; try with_reducible rfl)
          change wpAnyH _ _ _ _ _ _ _ (Act.put _ (some 140) _) _
          (try simp only [Act.put, List.setIfInBounds_toArray, List.set_cons_zero, List.set_cons_succ])
          refine wpAnyH_all (rs := [2]) (by kernel_rfl) (by simp) ?_
          refine AllReadyH.cons rfl (fun K hK => ?_) ?_
          · (refine wp_store_op (.tmp 4) (.tmp 139) rfl g4 0 0 (.slice none 0 0) (.slice none 0 0) rfl rfl rfl rfl (by exact hOS.out) ?_; refine hK.out _ _ (Chg_setRow hHeld (.inl (by simp)) _) (fun hHeld => ?_); clear hK K)
            (try simp only [Act.put, List.setIfInBounds_toArray, List.set_cons_zero, List.set_cons_succ])
            (have hT := WS.chg (w := World.drew wz) hWS.out (Chg_setRow (Chg.refl [g4] (World.drew wz)) (g := g4) (.inl (by simp)) #[.int .i64 0, .int .i64 0, .slice none 0 0, .slice none 0 0]) (by simpa using hg45.out); obtain ⟨t0, t1⟩ := WS.c0 hT; have tf0 := WS.f0 hT 0; have tf1 := WS.f0 hT 1)
            refine wpAnyH_all (rs := [3]) (by kernel_rfl) (by simp) ?_
            refine AllReadyH.cons rfl (fun K hK => ?_) ?_
            · go_simp
              refine hK.out _ _ (by first | exact hHeld | exact Chg.trans hHeld (by assumption) | exact Chg.alloc hHeld _ | exact Chg.alloc hH9 _ | exact (Chg.setCell hHeld (.inr hge) _).setCell (.inr hge) _ | exact (Chg.setCell hHeld (.inl (by simp)) _).setCell (.inl (by simp)) _) (fun hHeld => ?_)
              clear hK K
              (try simp only [Act.put, List.setIfInBounds_toArray, List.set_cons_zero, List.set_cons_succ])
              refine wpAnyH_done (by kernel_rfl) ?_ _
              (try simp only [Act.put, List.setIfInBounds_toArray, List.set_cons_zero, List.set_cons_succ])
              go_wp2_with fail
              (try rw [Exit.noGoto_ret])
              obtain ⟨hF4, hF5, hCh⟩ := co_put (wv := World.drew wz) hOS.out hWS.out (fun e => hg45.out e.symm) 0 0 (.slice none 0 0) (.slice none 0 0) ((p5 : Nat) : Int) ((q5 : Nat) : Int)
              have hCf := hCv.out.drew.then hCh (by intro x hx; simp at hx; have := hgl.out; rcases hx with rfl | rfl <;> right <;> omega)
              refine bodyPost_ret (v := .tuple #[.agg #[.int .i64 0, .int .i64 0, .slice none 0 0, .slice none 0 0], .agg #[.int .i64 ((p5 : Nat) : Int), .int .i64 ((q5 : Nat) : Int)]]) ?_ rfl ⟨hCf, .inr ⟨p5, q5, hE.out, hq0.out, rfl⟩⟩
              exact results_cell_cell rfl _ _ _ _ 35 55 _ _ _ _ rfl rfl hF4 hF5 Try.underlying35 rfl (by kernel_rfl) Try.underlying55 rfl (by kernel_rfl)
            exact AllReadyH.nil
          exact AllReadyH.nil
      · have hd3 : ((K : Int) != 3) = true := by simp; omega
        have hgo : (K = 8 ∧ body = false) ∨ ((body = true ∨ ((K : Int) == 8) = false) ∧ R = .ok (.mk K at_ args [])) := by
          by_cases h8 : K = 8
          · cases body with
            | false => exact .inl ⟨h8, rfl⟩
            | true => refine .inr ⟨.inl rfl, ?_⟩; rw [if_neg (by simp), if_pos hk3] at hR2; exact hR2.symm
          · refine .inr ⟨.inr (by rw [beq_eq_false_iff_ne]; omega), ?_⟩; rw [if_neg (by simp [h8]), if_pos hk3] at hR2; exact hR2.symm
        rcases hgo with ⟨h8, rfl⟩ | ⟨hb8, hE⟩
        · have hE : Hid (R = .error (at_, 9)) := Lib.hid (by rw [if_pos ⟨h8, rfl⟩] at hR2; exact hR2.symm)
          have hq0 : Hid ((9 : Nat) ≠ 0) := Lib.hid (by decide)
          have hd4 : ((K : Int) == 8) = true := by rw [h8]; rfl
          clear hR2 hfb h8 hk3 hd3
          go_upto_region 11 with fail
          clear k0 k1 q0 q1 q2 e0 e1 e2
          refine wp_region_held (S := fun w' => Chg [g4, g5] wv w') (by kernel_rfl) ?_
          (try (change wpAnyH _ _ _ _ _ _ _ _ (World.drew _)))
          have hHeld : Chg [g4, g5] wv (World.drew wv) := (Chg.refl _ _).drew
          refine wpAnyH_take (i := 0) (v := ?_) rfl (by kernel_rfl) (by kernel_rfl) (by kernel_rfl) (fun _ _ _ h => h) (Or.inl ⟨by kernel_rfl, ?_⟩) (by exact hHeld) ?_
          rotate_left
          · (intro w hSw; clear hSw; go_simp; try with_reducible rfl)
          change wpAnyH _ _ _ _ _ _ _ (Act.put _ (some 76) _) _
          (try simp only [Act.put, List.setIfInBounds_toArray, List.set_cons_zero, List.set_cons_succ])
          refine wpAnyH_take (i := 1) (v := ?_) rfl (by kernel_rfl) (by kernel_rfl) (by kernel_rfl) (fun _ _ _ h => h) (Or.inl ⟨by kernel_rfl, ?_⟩) (by exact hHeld) ?_
          rotate_left
          · (intro w hSw; clear hSw; go_simp; try with_reducible rfl)
          change wpAnyH _ _ _ _ _ _ _ (Act.put _ (some 77) _) _
          (try simp only [Act.put, List.setIfInBounds_toArray, List.set_cons_zero, List.set_cons_succ])
          refine wpAnyH_take (i := 2) (v := ?_) rfl (by kernel_rfl) (by kernel_rfl) (by kernel_rfl) (fun _ _ _ h => h) (Or.inl ⟨by kernel_rfl, ?_⟩) (by exact hHeld) ?_
          rotate_left
          · (intro w hSw; have hq := yk0.out w hSw; clear hSw; (try obtain ⟨hq, hq2, hq3⟩ := hq); go_simp; try with_reducible rfl)
          change wpAnyH _ _ _ _ _ _ _ (Act.put _ (some 78) _) _
          (try simp only [Act.put, List.setIfInBounds_toArray, List.set_cons_zero, List.set_cons_succ])
          refine wpAnyH_take (i := 3) (v := ?_) rfl (by kernel_rfl) (by kernel_rfl) (by kernel_rfl) (fun _ _ _ h => h) (Or.inl ⟨by kernel_rfl, ?_⟩) (by exact hHeld) ?_
          rotate_left
          · (intro w hSw; clear hSw; go_simp; try with_reducible rfl)
          change wpAnyH _ _ _ _ _ _ _ (Act.put _ (some 79) _) _
          (try simp only [Act.put, List.setIfInBounds_toArray, List.set_cons_zero, List.set_cons_succ])
          refine wpAnyH_all (rs := [4]) (by kernel_rfl) (by simp) ?_
          refine AllReadyH.cons rfl (fun K hK => ?_) ?_
          · (refine wp_store_op (.tmp 4) (.tmp 76) rfl g4 0 0 (.slice none 0 0) (.slice none 0 0) rfl rfl rfl rfl (by exact hOS.out) ?_; refine hK.out _ _ (Chg_setRow hHeld (.inl (by simp)) _) (fun hHeld => ?_); clear hK K)
            (try simp only [Act.put, List.setIfInBounds_toArray, List.set_cons_zero, List.set_cons_succ])
            (have hT := WS.chg (w := World.drew wv) hWS.out (Chg_setRow (Chg.refl [g4] (World.drew wv)) (g := g4) (.inl (by simp)) #[.int .i64 0, .int .i64 0, .slice none 0 0, .slice none 0 0]) (by simpa using hg45.out); obtain ⟨t0, t1⟩ := WS.c0 hT; have tf0 := WS.f0 hT 0; have tf1 := WS.f0 hT 1)
            refine wpAnyH_all (rs := [5]) (by kernel_rfl) (by simp) ?_
            refine AllReadyH.cons rfl (fun K hK => ?_) ?_
            · go_simp
              refine hK.out _ _ (by first | exact hHeld | exact Chg.trans hHeld (by assumption) | exact Chg.alloc hHeld _ | exact Chg.alloc hH9 _ | exact (Chg.setCell hHeld (.inr hge) _).setCell (.inr hge) _ | exact (Chg.setCell hHeld (.inl (by simp)) _).setCell (.inl (by simp)) _) (fun hHeld => ?_)
              clear hK K
              (try simp only [Act.put, List.setIfInBounds_toArray, List.set_cons_zero, List.set_cons_succ])
              refine wpAnyH_done (by kernel_rfl) ?_ _
              (try simp only [Act.put, List.setIfInBounds_toArray, List.set_cons_zero, List.set_cons_succ])
              go_wp2_with fail
              (try rw [Exit.noGoto_ret])
              obtain ⟨hF4, hF5, hCh⟩ := co_put (wv := World.drew wv) hOS.out hWS.out (fun e => hg45.out e.symm) 0 0 (.slice none 0 0) (.slice none 0 0) ((at_ : Nat) : Int) ((9 : Nat) : Int)
              have hCf := hCv.out.drew.then hCh (by intro x hx; simp at hx; have := hgl.out; rcases hx with rfl | rfl <;> right <;> omega)
              refine bodyPost_ret (v := .tuple #[.agg #[.int .i64 0, .int .i64 0, .slice none 0 0, .slice none 0 0], .agg #[.int .i64 ((at_ : Nat) : Int), .int .i64 ((9 : Nat) : Int)]]) ?_ rfl ⟨hCf, .inr ⟨at_, 9, hE.out, hq0.out, rfl⟩⟩
              exact results_cell_cell rfl _ _ _ _ 35 55 _ _ _ _ rfl rfl hF4 hF5 Try.underlying35 rfl (by kernel_rfl) Try.underlying55 rfl (by kernel_rfl)
            exact AllReadyH.nil
          exact AllReadyH.nil
        · replace hE := Lib.hid hE
          clear hR2 hfb hk3
          have hP := Lib.hid (co_put hOS.out hWS.out (fun e => hg45.out e.symm) K at_ (.slice A1 m1 c1) (.slice none 0 0) 0 0)
          have hT := WS.chg (w := wv) hWS.out (Chg_setRow (Chg.refl [g4] wv) (g := g4) (.inl (by simp)) #[.int .i64 K, .int .i64 at_, .slice A1 m1 c1, .slice none 0 0]) (by simpa using hg45.out)
          obtain ⟨t0, t1⟩ := WS.c0 hT
          have tf0 := WS.f0 hT 0
          have tf1 := WS.f0 hT 1
          have hT' := Lib.hid hT
          clear hT
          have hfin : Hid (∀ wx, Chg [] w wx → opC wx B [.int .i64 K, .int .i64 at_, .slice A1 m1 c1, .slice none 0 0] (.mk K at_ args [])) := Lib.hid (fun wx hc => by
            obtain ⟨-, ys, j1, j2, j3⟩ := hW1.out.chg hc (by simp)
            rw [opC]
            refine ⟨A1, c1, none, 0, ys, [], by rw [hm1.out]; rfl, ⟨by rw [hm1.out]; exact j1, by rw [hm1.out]; exact j2, j3⟩, Sl.nil _ _, fun q h0 => absurd h0 (by decide), by rw [armsC]⟩)
          rcases hb8 with rfl | hb8
          · cases h8 : ((K : Int) == 8)
            all_goals
              go_wp2_with (refine wpList_store_op rfl (.tmp 4) (.tmp 89) rfl g4 K at_ (.slice A1 m1 c1) (.slice none 0 0) rfl rfl rfl rfl hOS.out ?_)
              (try rw [Exit.noGoto_ret])
              obtain ⟨hF4, hF5, hCh⟩ := hP.out
              have hCf := hCv.out.then hCh (by intro x hx; simp at hx; have := hgl.out; rcases hx with rfl | rfl <;> right <;> omega)
              refine bodyPost_ret (v := .tuple #[.agg #[.int .i64 K, .int .i64 at_, .slice A1 m1 c1, .slice none 0 0], .agg #[.int .i64 0, .int .i64 0]]) ?_ rfl ⟨hCf, .inl ⟨.mk K at_ args [], hE.out, .int .i64 K, .int .i64 at_, .slice A1 m1 c1, .slice none 0 0, rfl, hfin.out _ hCf⟩⟩
              exact results_cell_cell rfl _ _ _ _ 35 55 _ _ _ _ rfl rfl hF4 hF5 Try.underlying35 rfl (by kernel_rfl) Try.underlying55 rfl (by kernel_rfl)
          · go_wp2_with (refine wpList_store_op rfl (.tmp 4) (.tmp 89) rfl g4 K at_ (.slice A1 m1 c1) (.slice none 0 0) rfl rfl rfl rfl hOS.out ?_)
            (try rw [Exit.noGoto_ret])
            obtain ⟨hF4, hF5, hCh⟩ := hP.out
            have hCf := hCv.out.then hCh (by intro x hx; simp at hx; have := hgl.out; rcases hx with rfl | rfl <;> right <;> omega)
            refine bodyPost_ret (v := .tuple #[.agg #[.int .i64 K, .int .i64 at_, .slice A1 m1 c1, .slice none 0 0], .agg #[.int .i64 0, .int .i64 0]]) ?_ rfl ⟨hCf, .inl ⟨.mk K at_ args [], hE.out, .int .i64 K, .int .i64 at_, .slice A1 m1 c1, .slice none 0 0, rfl, hfin.out _ hCf⟩⟩
            exact results_cell_cell rfl _ _ _ _ 35 55 _ _ _ _ rfl rfl hF4 hF5 Try.underlying35 rfl (by kernel_rfl) Try.underlying55 rfl (by kernel_rfl)
end Pl
end Go.Proofs.Ytakcolililbkjaa
