/- Contract of package plan's list. Conditions: as it states. -/
import Derived.Test.YtakcolililbkjaaPlWs
import Derived.Deep.Cut
import Derived.Deep.CutBlock
import Derived.Deep.DeepCutAuto
set_option linter.unusedVariables false
set_option linter.unusedSimpArgs false
namespace Go.Proofs.Ytakcolililbkjaa
namespace Pl
open Go.RowKit Tcl Plan
theorem Try.info_arm : (Try.prog.info? 40).map (fun i => (i.zero, i.size, i.bytes)) = some (some (.agg #[.int .i64 0, .int .i64 0, .int .i64 0, .slice none 0 0, .slice none 0 0]), 5, 72) := by kernel_rfl
theorem headA_le {f : Word} {l l2 : List Word} {k : Nat} {p : Word} (h : headA f l = .ok (k, p, l2)) : l2.length ≤ l.length := by
  unfold headA at h
  split at h
  · cases h; exact Nat.le_refl _
  · split at h
    · split at h
      · cases h
      · cases h; simp
    · cases h; exact Nat.le_refl _
theorem bodyA_le {rec : List UInt8 → Nat → Except Bad (List Plan.Op)} {l l3 : List Word} {b : List Plan.Op} (h : bodyA rec l = .ok (b, l3)) : l3.length ≤ l.length := by
  unfold bodyA at h
  split at h
  · cases h; exact Nat.le_refl _
  · split at h
    · split at h
      · cases h
      · cases h; simp
    · cases h; exact Nat.le_refl _
theorem headA_sub {f : Word} {l l2 : List Word} {k : Nat} {p : Word} {L M : Nat} (hw : Wd L M l) (h : headA f l = .ok (k, p, l2)) : Wd L M l2 := by
  unfold headA at h
  split at h
  · cases h; exact hw
  · split at h
    · split at h
      · cases h
      · cases h; exact hw.tail
    · cases h; exact hw
theorem bodyA_sub {rec : List UInt8 → Nat → Except Bad (List Plan.Op)} {l l3 : List Word} {b : List Plan.Op} {L M : Nat} (hw : Wd L M l) (h : bodyA rec l = .ok (b, l3)) : Wd L M l3 := by
  unfold bodyA at h
  split at h
  · cases h; exact hw
  · split at h
    · split at h
      · cases h
      · cases h; exact hw.tail
    · cases h; exact hw
/-- What is not of the row. -/
abbrev Off (B : Nat → Prop) (g : Nat) (v : Value) : Nat → Prop := fun q => B q ∧ q ≠ g ∧ v.ownBlock ≠ some q
/-- How far `list` is. -/
def LsI (w wr : World) (B : Nat → Prop) (A : Option Addr) (c : Nat) (rem : List Word) (Aa : Option Addr) (ca : Nat) (acc : List Arm) (zs : List Value) : Prop :=
  WsV wr (Off B w.heap.size (.slice Aa (List.length acc) ca)) A (List.length rem) c rem ∧ wr.ownsRow (w.heap.size + 1) 40 5 (.slice Aa (List.length acc) ca) (List.length acc) zs ∧ armsC wr (Off B w.heap.size (.slice Aa (List.length acc) ca)) zs acc ∧ Chg [] w wr ∧ WS wr w.heap.size 0 0
set_option maxRecDepth 100000 in
set_option maxHeartbeats 16000000 in
theorem list_any (rec : List UInt8 → Nat → Except Bad (List Plan.Op)) (L M : Nat) (hrec : RecOk rec L M) (hL : L ≤ 16777217) (hM : M ≤ 1099511627776) (w : World) (B : Nat → Prop) (A : Option Addr) (n c : Nat) (ws : List Word)
    (hW : WsV w B A n c ws) (hwd : Wd L M ws) (hB : ∀ q, w.heap.size ≤ q → B q) : Calls Try.prog 29 #[.slice A n c] w (LiEnd w B (armsGo rec n ws [])) := by
  unfold LiEnd
  have hn9 := hW.max
  have hn := hW.1
  obtain ⟨R, hR⟩ : ∃ R, armsGo rec n ws [] = R := ⟨_, rfl⟩
  rw [hR]
  have hC1 := (Chg.refl [] w).alloc (.cells #[.int .i64 0, .int .i64 0] 55)
  have hI := Lib.hid (show LsI w (w.alloc (.cells #[.int .i64 0, .int .i64 0] 55)) B A c ws none 0 [] [] from
    ⟨(by rw [← hn]; exact ((hW.imp (B' := fun q => B q ∧ q ≠ w.heap.size) (fun q hq hl => ⟨hq, by omega⟩)).chg hC1 (by simp)).imp (fun q hq hl => ⟨hq.1, hq.2, by simp [Value.ownBlock]⟩)), World.ownsRow_nil _ _ _ _, by rw [armsC], hC1, blk_new _ _⟩)
  replace hrec := Lib.hid hrec
  replace hwd := Lib.hid hwd
  replace hB := Lib.hid hB
  replace hR := Lib.hid hR
  clear hW hC1
  go_enter Try.func29, Try.ntmps29
  go_wp2_with fail
  generalize w.alloc _ = w1 at hI ⊢
  go_loopg [0, 4] n (fun gk v0 v4 wr => ∃ (A : Option Addr) (c k : Nat) (rem : List Word) (Aa : Option Addr) (ca : Nat) (acc : List Arm) (zs : List Value), v0 = .slice A gk c ∧ v4 = .slice Aa (List.length acc) ca ∧ gk = rem.length ∧ gk ≤ k ∧ List.length acc ≤ 64 ∧ Hid (LsI w wr B A c rem Aa ca acc zs) ∧ Hid (Wd L M rem) ∧ Hid (armsGo rec k rem acc = R))
  case atStart => exact ⟨A, c, n, ws, none, 0, [], [], rfl, rfl, hn, by omega, by simp, hI, hwd, hR⟩
  case round =>
    obtain ⟨A, c, k, rem, Aa, ca, acc, zs, rfl, rfl, hgk, hkk, hacc, hI, hwd, hR⟩ := hrel
    obtain ⟨wI, oI, aI, cI, sI⟩ := hI.out
    have hn3 : (Value.slice Aa (List.length acc) ca).ownBlock ≠ some w.heap.size := fun e => by have := (oI.lt _ e).1; omega
    have s0 := sI.c0
    have f0 := sI.f0 0
    have f1 := sI.f0 1
    obtain ⟨s0, s1⟩ := s0
    replace wI := Lib.hid wI
    replace oI := Lib.hid oI
    replace aI := Lib.hid aI
    replace cI := Lib.hid cI
    replace sI := Lib.hid sI
    clear hI
    cases rem with
    | nil =>
      have hg0 : gk = 0 := by rw [hgk]; rfl
      have hE : R = .ok acc := by have := hR.out; rw [armsGo] at this; exact this.symm
      replace hE := Lib.hid hE
      clear hR hgk hkk wI
      subst hg0
      go_wp2_with fail
      have hF := (sI.out.put 0 0)
      have h3 := (((Chg.refl [w.heap.size] wr).setCell (p := ⟨w.heap.size, 0, none⟩) (.inl (by simp)) (.int .i64 0)).setCell (p := ⟨w.heap.size, 1, none⟩) (.inl (by simp)) (.int .i64 0))
      have hO2 := own_chg oI.out h3 (fun q hq hm => by simp at hm; subst hm; exact hn3 hq)
      refine bodyPost_ret (v := .tuple #[.slice Aa (List.length acc) ca, .agg #[.int .i64 0, .int .i64 0]]) ?_ rfl ⟨(cI.out.setCell (.inr (Nat.le_refl _)) _).setCell (.inr (Nat.le_refl _)) _, .inl ⟨acc, Aa, ca, zs, hE.out, rfl, own_sl hO2, fun q _ hq => ⟨hB.out q (by have := (hO2.lt q hq).1; omega), (hO2.lt q hq).2⟩, ?_⟩⟩
      · exact results_tmp_cell rfl _ _ _ 55 _ (0, 0) _ rfl _ rfl hF Try.underlying55 rfl (by kernel_rfl)
      · exact armsC.imp (fun q hq _ => hq.1) _ _ (armsC.chg h3 (fun q hq _ hm => by simp at hm; exact hq.2.1 hm) _ _ aI.out)
    | cons f l1 =>
      have hgl := Lib.hid (show gk = l1.length + 1 by rw [hgk]; rfl)
      obtain ⟨b, o, Ap, cp, rfl, q0, q1, q2, hp, hbk, hpn⟩ := wI.out.head
      obtain ⟨A1, c1, hsl, hW1⟩ := wI.out.tail
      obtain ⟨m1, hm1⟩ : ∃ m1, List.length l1 = m1 := ⟨_, rfl⟩
      rw [← hgk] at hsl
      rw [hm1] at hsl hW1
      replace hm1 := Lib.hid hm1
      replace hgk := Lib.hid hgk
      have hwf := hwd.out f (by simp)
      have hwd1 := Lib.hid hwd.out.tail
      have hpos : 0 < gk := by have := hgl.out; omega
      have hgt : decide ((gk : Int) > 0) = true := by simp; omega
      have hgt2 : decide (0 < gk) = true := by simp; omega
      obtain ⟨np, hnp⟩ : ∃ np, f.parts.length = np := ⟨_, rfl⟩
      have hC5 := (Chg.refl [] wr).alloc (.cells #[.int .i64 f.at_, .int .i64 f.kind, .slice Ap np cp] 38)
      have hV5 := Lib.hid (show VS (wr.alloc (.cells #[.int .i64 f.at_, .int .i64 f.kind, .slice Ap np cp] 38)) wr.heap.size f.at_ f.kind (.slice Ap np cp) from blk_new _ _)
      rw [hnp] at q2
      replace hW1 := Lib.hid hW1
      replace hp := Lib.hid hp
      replace hbk := Lib.hid hbk
      replace hnp := Lib.hid hnp
      replace hC5 := Lib.hid hC5
      replace hwf := Lib.hid hwf
      clear hwd wI
      by_cases h64 : List.length acc = 64
      · have hE : R = .error (f.at_, 10) := by
          have := hR.out
          cases k with
          | zero => omega
          | succ k => rw [armsGo, if_pos h64] at this; exact this.symm
        replace hE := Lib.hid hE
        have h64' : ((List.length acc : Int) == 64) = true := by rw [h64]; rfl
        clear hR hkk h64
        have sN := Lib.hid (sI.out.chg hC5.out (by simp))
        have cN := Lib.hid (cI.out.trans hC5.out)
        clear s0 s1 f0 f1
        go_upto_region 5 with fail
        generalize w5 : wr.alloc _ = wv at hV5 sN cN ⊢
        clear w5
        have v0 := hV5.out.c0.1
        obtain ⟨s0, s1⟩ := sN.out.c0
        have f0 := sN.out.f0 0
        have f1 := sN.out.f0 1
        refine wp_region_any (by kernel_rfl) ?_
        (try (change wpAny _ _ _ _ _ _ _ (World.drew _)))
        refine wpAny_take (i := 0) (v := ?_) rfl (by kernel_rfl) (by kernel_rfl) (by kernel_rfl) (fun _ _ _ h => h) (Or.inl ⟨by kernel_rfl, ?_⟩) ?_
        rotate_left
        · (intro w; go_simp; try with_reducible rfl)
        change wpAny _ _ _ _ _ _ (Act.put _ (some 20) _) _
        (try simp only [Act.put, List.setIfInBounds_toArray, List.set_cons_zero, List.set_cons_succ])
        refine wpAny_take (i := 3) (v := ?_) rfl (by kernel_rfl) (by kernel_rfl) (by kernel_rfl) (fun _ _ _ h => h) (Or.inl ⟨by kernel_rfl, ?_⟩) ?_
        rotate_left
        · (intro w; go_simp; try with_reducible rfl)
        change wpAny _ _ _ _ _ _ (Act.put _ (some 2) _) _
        (try simp only [Act.put, List.setIfInBounds_toArray, List.set_cons_zero, List.set_cons_succ])
        refine wpAny_ready (rs := [1]) (by kernel_rfl) (by simp) ?_
        refine AllReady.cons rfl (fun K hK => ?_) ?_
        · go_simp
          (try (refine hK _ _ ?_; clear hK K))
          (try simp only [Act.put, List.setIfInBounds_toArray, List.set_cons_zero, List.set_cons_succ])
          refine wpAny_take (i := 2) (v := ?_) rfl (by kernel_rfl) (by kernel_rfl) (by kernel_rfl) (fun _ _ _ h => h) (Or.inl ⟨by kernel_rfl, ?_⟩) ?_
          rotate_left
          · (intro w; go_simp; try with_reducible rfl)
          change wpAny _ _ _ _ _ _ (Act.put _ (some 22) _) _
          (try simp only [Act.put, List.setIfInBounds_toArray, List.set_cons_zero, List.set_cons_succ])
          refine wpAny_ready (rs := [4]) (by kernel_rfl) (by simp) ?_
          refine AllReady.cons rfl (fun K hK => ?_) ?_
          · go_simp
            (try (refine hK _ _ ?_; clear hK K))
            (try simp only [Act.put, List.setIfInBounds_toArray, List.set_cons_zero, List.set_cons_succ])
            refine wpAny_done (by kernel_rfl) ?_ _
            (try simp only [Act.put, List.setIfInBounds_toArray, List.set_cons_zero, List.set_cons_succ])
            go_wp2_with fail
            (try rw [Exit.noGoto_ret])
            have hF := WS.put (w := wv.drew) sN.out f.at_ 10
            refine bodyPost_ret (v := .tuple #[.slice none 0 0, .agg #[.int .i64 f.at_, .int .i64 10]]) ?_ rfl ⟨(cN.out.drew.setCell (.inr (Nat.le_refl _)) _).setCell (.inr (Nat.le_refl _)) _, .inr ⟨f.at_, 10, hE.out, by decide, rfl⟩⟩
            exact results_tmp_cell rfl _ _ _ 55 _ (0, 0) _ rfl _ rfl hF Try.underlying55 rfl (by kernel_rfl)
          exact AllReady.nil
        exact AllReady.nil
      · have h64' : ((List.length acc : Int) == 64) = false := by rw [beq_eq_false_iff_ne]; omega
        have hacc2 : List.length acc + 1 ≤ 64 := by omega
        have hstep : ∃ k', gk ≤ k' + 1 ∧ (match headA f l1 with | .error b => .error b | .ok (kd, p, l2) => match bodyA rec l2 with | .error b => .error b | .ok (body, l3) => armsGo rec k' l3 (acc ++ [.mk kd p body])) = R := by
          have := hR.out
          cases k with
          | zero => omega
          | succ k => rw [armsGo, if_neg h64] at this; exact ⟨k, by omega, this⟩
        obtain ⟨k', hk', hstep⟩ := hstep
        replace hstep := Lib.hid hstep
        have hC6 := Lib.hid (hC5.out.alloc (.cells #[.int .i64 1, .int .i64 f.at_, .int .i64 f.kind, .slice Ap np cp, .slice none 0 0] 40))
        have hA6 := Lib.hid (show AS ((wr.alloc (.cells #[.int .i64 f.at_, .int .i64 f.kind, .slice Ap np cp] 38)).alloc (.cells #[.int .i64 1, .int .i64 f.at_, .int .i64 f.kind, .slice Ap np cp, .slice none 0 0] 40)) (wr.heap.size + 1) 1 f.at_ f.kind (.slice Ap np cp) (.slice none 0 0) from by
          have := blk_new (wr.alloc (.cells #[.int .i64 f.at_, .int .i64 f.kind, .slice Ap np cp] 38)) (.cells #[.int .i64 1, .int .i64 f.at_, .int .i64 f.kind, .slice Ap np cp, .slice none 0 0] 40)
          rw [show (wr.alloc (.cells #[.int .i64 f.at_, .int .i64 f.kind, .slice Ap np cp] 38)).heap.size = wr.heap.size + 1 from Array.size_push ..] at this
          exact this)
        have hV6 := Lib.hid (show VS ((wr.alloc (.cells #[.int .i64 f.at_, .int .i64 f.kind, .slice Ap np cp] 38)).alloc (.cells #[.int .i64 1, .int .i64 f.at_, .int .i64 f.kind, .slice Ap np cp, .slice none 0 0] 40)) wr.heap.size f.at_ f.kind (.slice Ap np cp) from blk_alloc hV5.out _)
        clear hR hkk h64 s0 s1 f0 f1 hacc hV5 hC5
        have hfl := flagged_any ((wr.alloc (.cells #[.int .i64 f.at_, .int .i64 f.kind, .slice Ap np cp] 38)).alloc (.cells #[.int .i64 1, .int .i64 f.at_, .int .i64 f.kind, .slice Ap np cp, .slice none 0 0] 40)) f Ap cp (hp.out.chg hC6.out (fun _ _ _ => by simp))
        unfold wordV at hfl
        rw [hnp.out] at hfl
        obtain ⟨fo, hfo⟩ : ∃ fo, flagged f = fo := ⟨_, rfl⟩
        rw [hfo] at hfl
        replace hfl := Lib.hid hfl
        replace hfo := Lib.hid hfo
        obtain ⟨Bf, hBf⟩ : ∃ Bf, Off B w.heap.size (.slice Aa (List.length acc) ca) = Bf := ⟨_, rfl⟩
        rw [hBf] at hW1 hbk
        obtain ⟨Bo, hBo⟩ : ∃ Bo, (fun q => Bf q ∧ q < wr.heap.size) = Bo := ⟨_, rfl⟩
        replace hW1 := Lib.hid (hW1.out.imp (B' := Bo) (fun q hq hl => by rw [← hBo]; exact ⟨hq, hl⟩))
        replace hbk := Lib.hid (hbk.out.imp (B' := Bo) (fun q hq hl => by rw [← hBo]; exact ⟨hq, hl⟩))
        replace hBf := Lib.hid hBf
        replace hBo := Lib.hid hBo
        have hlh := lt_heap sI.out
        go_wp2_with fail
        refine (hfl.out).mono ?_
        rintro e w8 ⟨⟨K, rfl, hK⟩, hC8⟩
        have hC9 := Lib.hid (hC6.out.trans hC8)
        have hA9 := Lib.hid (hA6.out.chg hC8 (by simp))
        have hV9 := Lib.hid (hV6.out.chg hC8 (by simp))
        replace hK := Lib.hid hK
        clear hfl hC8 hA6 hV6 hC6
        go_upto_if 32 with fail
        go_cut [0] (fun v0 wx => ∃ (kd : Nat) (p : Word) (l2 : List Word) (A2 : Option Addr) (c2 : Nat) (Ap2 : Option Addr) (cp2 : Nat), v0 = .slice A2 (List.length l2) c2 ∧ Hid (headA f l1 = .ok (kd, p, l2)) ∧ Hid (WsV wx Bo A2 (List.length l2) c2 l2) ∧
          Hid (PartsAt wx (.slice Ap2 p.parts.length cp2) p.parts ∧ Blk wx Bo (.slice Ap2 p.parts.length cp2) p.parts.length) ∧ Hid (AS wx (wr.heap.size + 1) kd p.at_ p.kind (.slice Ap2 p.parts.length cp2) (.slice none 0 0)) ∧ Hid (Chg [] wr wx))
        case first =>
          cases fo with
          | none =>
            have hH : Hid (headA f l1 = .ok (1, f, l1)) := Lib.hid (by unfold headA; rw [hfo.out])
            clear hK hV9
            go_wp2_with fail
            go_meet
            exact ⟨1, f, l1, A1, c1, Ap, cp, by rw [hm1.out], hH, by rw [hm1.out]; exact Lib.hid (hW1.out.chg hC9.out (fun _ _ _ => by simp)), Lib.hid ⟨hp.out.chg hC9.out (fun _ _ _ => by simp), hbk.out.chg hC9.out⟩, by rw [hnp.out]; exact hA9, hC9⟩
          | some j =>
            obtain rfl : K = j := hK.out j rfl
            clear hK
            have hA10 := Lib.hid (show AS (w8.setRow (wr.heap.size + 1) #[.int .i64 j, .int .i64 0, .int .i64 0, .slice none 0 0, .slice none 0 0]) (wr.heap.size + 1) j 0 0 (.slice none 0 0) (.slice none 0 0) from setRow_heap _ _ _ _ _ _ hA9.out)
            have hC10 := Lib.hid (Chg_setRow hC9.out (g := wr.heap.size + 1) (.inr (by omega)) #[.int .i64 j, .int .i64 0, .int .i64 0, .slice none 0 0, .slice none 0 0])
            have hV10 := Lib.hid (hV9.out.chg (Chg_setRow (Chg.refl [wr.heap.size + 1] w8) (g := wr.heap.size + 1) (.inl (by simp)) #[.int .i64 j, .int .i64 0, .int .i64 0, .slice none 0 0, .slice none 0 0]) (by simp))
            go_upto_block 2 with (refine wpList_store_arm rfl (.tmp 6) (.tmp 34) rfl (wr.heap.size + 1) j 0 0 (.slice none 0 0) (.slice none 0 0) rfl rfl rfl rfl hA9.out ?_)
            clear hC9 hA9 hV9
            generalize w10 : World.setRow _ _ _ = wx at hA10 hC10 hV10 ⊢
            clear w10
            by_cases hj : j < 2
            · have hjd : decide ((j : Int) < 2) = true := by simp; omega
              cases l1 with
              | nil =>
                have hH : headA f [] = .error (f.at_, 2) := by unfold headA; rw [hfo.out]; simp only; rw [if_pos hj]
                have hE : R = .error (f.at_, 2) := by have := hstep.out; rw [hH] at this; exact this.symm
                replace hE := Lib.hid hE
                obtain rfl : m1 = 0 := hm1.out.symm
                have sN := Lib.hid (sI.out.chg hC10.out (by simp))
                have cN := Lib.hid (cI.out.trans hC10.out)
                clear hH hstep
                go_upto_region 12 with fail
                obtain ⟨v0, -, -⟩ := hV10.out.c0
                obtain ⟨s0, s1⟩ := sN.out.c0
                have f0 := sN.out.f0 0
                have f1 := sN.out.f0 1
                refine wp_region_any (by kernel_rfl) ?_
                (try (change wpAny _ _ _ _ _ _ _ (World.drew _)))
                refine wpAny_take (i := 0) (v := ?_) rfl (by kernel_rfl) (by kernel_rfl) (by kernel_rfl) (fun _ _ _ h => h) (Or.inl ⟨by kernel_rfl, ?_⟩) ?_
                rotate_left
                · (intro w; go_simp; try with_reducible rfl)
                change wpAny _ _ _ _ _ _ (Act.put _ (some 43) _) _
                (try simp only [Act.put, List.setIfInBounds_toArray, List.set_cons_zero, List.set_cons_succ])
                refine wpAny_take (i := 3) (v := ?_) rfl (by kernel_rfl) (by kernel_rfl) (by kernel_rfl) (fun _ _ _ h => h) (Or.inl ⟨by kernel_rfl, ?_⟩) ?_
                rotate_left
                · (intro w; go_simp; try with_reducible rfl)
                change wpAny _ _ _ _ _ _ (Act.put _ (some 2) _) _
                (try simp only [Act.put, List.setIfInBounds_toArray, List.set_cons_zero, List.set_cons_succ])
                refine wpAny_ready (rs := [1]) (by kernel_rfl) (by simp) ?_
                refine AllReady.cons rfl (fun K hK => ?_) ?_
                · go_simp
                  (try (refine hK _ _ ?_; clear hK K))
                  (try simp only [Act.put, List.setIfInBounds_toArray, List.set_cons_zero, List.set_cons_succ])
                  refine wpAny_take (i := 2) (v := ?_) rfl (by kernel_rfl) (by kernel_rfl) (by kernel_rfl) (fun _ _ _ h => h) (Or.inl ⟨by kernel_rfl, ?_⟩) ?_
                  rotate_left
                  · (intro w; go_simp; try with_reducible rfl)
                  change wpAny _ _ _ _ _ _ (Act.put _ (some 45) _) _
                  (try simp only [Act.put, List.setIfInBounds_toArray, List.set_cons_zero, List.set_cons_succ])
                  refine wpAny_ready (rs := [4]) (by kernel_rfl) (by simp) ?_
                  refine AllReady.cons rfl (fun K hK => ?_) ?_
                  · go_simp
                    (try (refine hK _ _ ?_; clear hK K))
                    (try simp only [Act.put, List.setIfInBounds_toArray, List.set_cons_zero, List.set_cons_succ])
                    refine wpAny_done (by kernel_rfl) ?_ _
                    (try simp only [Act.put, List.setIfInBounds_toArray, List.set_cons_zero, List.set_cons_succ])
                    go_wp2_with fail
                    (try rw [Exit.noGoto_ret])
                    have hF := WS.put (w := wx.drew) sN.out f.at_ 2
                    refine bodyPost_ret (v := .tuple #[.slice none 0 0, .agg #[.int .i64 f.at_, .int .i64 2]]) ?_ rfl ⟨(cN.out.drew.setCell (.inr (Nat.le_refl _)) _).setCell (.inr (Nat.le_refl _)) _, .inr ⟨f.at_, 2, hE.out, by decide, rfl⟩⟩
                    exact results_tmp_cell rfl _ _ _ 55 _ (0, 0) _ rfl _ rfl hF Try.underlying55 rfl (by kernel_rfl)
                  exact AllReady.nil
                exact AllReady.nil
              | cons p l2 =>
                have hH : Hid (headA f (p :: l2) = .ok (j, p, l2)) := Lib.hid (by unfold headA; rw [hfo.out]; simp only; rw [if_pos hj])
                obtain ⟨b1, o1, Ap1, cp1, rfl, p0, p1, p2, hp1, hbk1, -⟩ := hW1.out.head
                obtain ⟨A2, c2, hsl2, hW2⟩ := hW1.out.tail
                replace p0 := hC10.out.cell p0 (by simp)
                replace p1 := hC10.out.cell p1 (by simp)
                replace p2 := hC10.out.cell p2 (by simp)
                have hm10 : ((m1 : Int) == 0) = false := by have := hm1.out; simp only [List.length_cons] at this; rw [beq_eq_false_iff_ne]; omega
                have hm11 : 0 < m1 := by have := hm1.out; simp only [List.length_cons] at this; omega
                obtain ⟨a0, a1, a2, a3, a4⟩ := hA10.out.c0
                have g1 := hA10.out.f0 1
                have g2 := hA10.out.f0 2
                have g3 := hA10.out.f0 3
                have hA11 := Lib.hid (hA10.out.put3 p.at_ p.kind (.slice Ap1 p.parts.length cp1))
                have hS := fun W : World => (((Chg.refl [wr.heap.size + 1] W).setCell (p := ⟨wr.heap.size + 1, 1, none⟩) (.inl (by simp)) (.int .i64 p.at_)).setCell (p := ⟨wr.heap.size + 1, 2, none⟩) (.inl (by simp)) (.int .i64 p.kind)).setCell (p := ⟨wr.heap.size + 1, 3, none⟩) (.inl (by simp)) (.slice Ap1 p.parts.length cp1)
                have hC11 := Lib.hid (hC10.out.then (hS wx) (by intro x hx; simp at hx; omega))
                replace hp1 := Lib.hid hp1
                replace hbk1 := Lib.hid hbk1
                replace hW2 := Lib.hid hW2
                clear hS hA10 hC10 hV10 hfo hstep
                go_wp2_with fail
                go_meet
                exact ⟨j, p, l2, A2, c2, Ap1, cp1, rfl, hH, Lib.hid (hW2.out.chg hC11.out (fun _ _ _ => by simp)), Lib.hid ⟨hp1.out.chg hC11.out (fun _ _ _ => by simp), hbk1.out.chg hC11.out⟩, hA11, hC11⟩
            · have hH : Hid (headA f l1 = .ok (j, ⟨0, 0, []⟩, l1)) := Lib.hid (by unfold headA; rw [hfo.out]; simp only; rw [if_neg hj])
              have hjd : decide ((j : Int) < 2) = false := by simp; omega
              clear hV10 hfo hstep
              go_wp2_with fail
              go_meet
              exact ⟨j, ⟨0, 0, []⟩, l1, A1, c1, none, 0, by rw [hm1.out], hH, by rw [hm1.out]; exact Lib.hid (hW1.out.chg hC10.out (fun _ _ _ => by simp)), Lib.hid ⟨Sl.nil _ _, fun q h0 => absurd h0 (by decide)⟩, hA10, hC10⟩
        case rest =>
        obtain ⟨kd, p, l2, A2, c2, Ap2, cp2, rfl, hH, hW2, hPB, hA2, hC2⟩ := hcut
        obtain ⟨w2, rfl⟩ : ∃ w2, w2 = wc := ⟨_, rfl⟩
        have hst2 : (match bodyA rec l2 with | .error b => .error b | .ok (body, l3) => armsGo rec k' l3 (acc ++ [.mk kd p body])) = R := by have := hstep.out; rw [hH.out] at this; exact this
        have hwd2 := headA_sub hwd1.out hH.out
        have hle2 := headA_le hH.out
        obtain ⟨m2, hm2⟩ : ∃ m2, List.length l2 = m2 := ⟨_, rfl⟩
        rw [hm1.out, hm2] at hle2
        rw [hm2] at hW2 ⊢
        obtain ⟨z, hz⟩ : ∃ z, (match l2 with | [] => false | wd :: _ => decide (wd.kind = 2)) = z := ⟨_, rfl⟩
        replace hst2 := Lib.hid hst2
        replace hwd2 := Lib.hid hwd2
        replace hm2 := Lib.hid hm2
        replace hz := Lib.hid hz
        have hH' := hH
        clear hstep hH hwd1 hfo hK hV9 hA9 hC9 hsl hp hbk hnp
        go_upto_region 16 with fail
        go_cut [64] (fun v64 wx => v64 = .bool z ∧ wx = w2)
        case first =>
          cases l2 with
          | nil =>
            obtain rfl : m2 = 0 := hm2.out.symm
            obtain rfl : z = false := hz.out.symm
            go_wp2_with fail
            go_meet
            exact ⟨rfl, rfl⟩
          | cons wd l3 =>
            obtain ⟨b1, o1, Ap1, cp1, rfl, p0, p1, p2, hp1, hbk1, -⟩ := hW2.out.head
            have hm20 : decide ((m2 : Int) > 0) = true := by have := hm2.out; simp only [List.length_cons] at this; simp; omega
            have hm21 : decide (0 < m2) = true := by have := hm2.out; simp only [List.length_cons] at this; simp; omega
            have hm22 : 0 < m2 := by have := hm2.out; simp only [List.length_cons] at this; omega
            have hzz : ((wd.kind : Int) == 2) = z := by
              rw [← hz.out]
              simp only
              by_cases h : wd.kind = 2
              · rw [h]; rfl
              · rw [decide_eq_false h, beq_eq_false_iff_ne]; omega
            clear hp1 hbk1 p0 p2
            go_wp2_with fail
            go_meet
            exact ⟨rfl, rfl⟩
        case rest =>
        obtain ⟨rfl, hwc⟩ := hcut
        rw [hwc]
        clear hwc wc
        go_upto_if 64 with fail
        go_cut [0] (fun v0 wx => ∃ (body : List Plan.Op) (l3 : List Word) (A3 : Option Addr) (c3 : Nat) (Ab : Option Addr) (cb : Nat), v0 = .slice A3 (List.length l3) c3 ∧ Hid (bodyA rec l2 = .ok (body, l3)) ∧ Hid (WsV wx Bo A3 (List.length l3) c3 l3) ∧
          Hid (AS wx (wr.heap.size + 1) kd p.at_ p.kind (.slice Ap2 p.parts.length cp2) (.slice Ab (List.length body) cb)) ∧ Hid (OpsV wx (fun q => Bf q ∧ q ≠ wr.heap.size + 1) (.slice Ab (List.length body) cb) body) ∧ Hid (Chg [] wr wx) ∧ Hid (Chg [wr.heap.size + 1] w2 wx))
        case first =>
          cases z with
          | false =>
            have hBd : Hid (bodyA rec l2 = .ok ([], l2)) := Lib.hid (by
              unfold bodyA
              cases l2 with
              | nil => rfl
              | cons wd l3 =>
                have h : ¬ wd.kind = 2 := by have := hz.out; simpa using this
                simp only; rw [if_neg h])
            go_wp2_with fail
            go_meet
            exact ⟨[], l2, A2, c2, none, 0, by rw [hm2.out], hBd, by rw [hm2.out]; exact hW2, hA2, Lib.hid ⟨[], Sl.nil _ _, fun q h0 => absurd h0 (by decide), by rw [opsC]⟩, hC2, Lib.hid (Chg.refl _ _)⟩
          | true =>
            cases l2 with
            | nil => exact absurd hz.out (by simp)
            | cons wd l3 =>
              have hk2 : wd.kind = 2 := by have := hz.out; simpa using this
              obtain ⟨hwa, hwb⟩ := hwd2.out wd (by simp)
              obtain ⟨hwb1, hwb2⟩ := hwb hk2
              obtain ⟨b1, o1, Ap1, cp1, rfl, p0, p1, p2, hp1, hbk1, hpn1⟩ := hW2.out.head
              obtain ⟨A3, c3, hsl3, hW3⟩ := hW2.out.tail
              have hop := Lib.hid (fun W (hc : Chg [] w2 W) => open_any W wd Ap1 cp1 (hp1.chg hc (fun _ _ _ => by simp)) (by omega) hpn1)
              have hsc := Lib.hid (fun W => hrec.out W (openT wd) (wd.at_ + 1) hwb1 hwb2)
              have hBd : (bodyA rec (wd :: l3) = match rec (openT wd) (wd.at_ + 1) with | .error b => .error b | .ok body => .ok (body, l3)) := by unfold bodyA; simp only; rw [if_pos hk2]; rfl
              obtain ⟨rr, hrr⟩ : ∃ rr, rec (openT wd) (wd.at_ + 1) = rr := ⟨_, rfl⟩
              rw [hrr] at hsc hBd
              obtain ⟨Z, hZ⟩ : ∃ Z, bstr (openT wd) = Z := ⟨_, rfl⟩
              rw [hZ] at hop hsc
              have hwr : IntKind.i64.wrap ((wd.at_ : Int) + 1) = (wd.at_ : Int) + 1 := IntWalk.i64_in _ (by omega)
              simp only [Int.natCast_add, Int.cast_ofNat_Int] at hsc
              unfold wordV at hop
              obtain ⟨np1, hnp1⟩ : ∃ np1, wd.parts.length = np1 := ⟨_, rfl⟩
              rw [hnp1] at hop p2
              have y2 := Lib.hid (fun W (hc : Chg [] w2 W) => (⟨hc.cell p0 (by simp), hc.cell p1 (by simp), hc.cell p2 (by simp)⟩ : W.cell? ⟨b1, o1, none⟩ = some (.int .i64 wd.at_) ∧ W.cell? ⟨b1, o1 + 1, none⟩ = some (.int .i64 wd.kind) ∧ W.cell? ⟨b1, o1 + 2, none⟩ = some (.slice Ap1 np1 cp1)))
              have y7 := Lib.hid (fun W (hc : Chg [] w2 W) => hc.cell p0 (by simp))
              have hm22 : 0 < m2 := by have := hm2.out; simp only [List.length_cons] at this; omega
              have hlh2 := lt_heap hA2.out
              replace hBd := Lib.hid hBd
              replace hW3 := Lib.hid hW3
              clear hp1 hbk1 p0 p1 p2 hrr hZ hnp1 hwa hwb hwb1 hwb2 hk2 hz hpn1
              go_upto_region 17 with fail
              go_cut [9, 10] (fun v9 v10 wx => ∃ (g : Nat) (V : Value) (pp qq : Nat), v9 = V ∧ v10 = .pointer (some ⟨g, 0, none⟩) ∧ w2.heap.size ≤ g ∧ Hid (WS wx g pp qq) ∧ Hid (ScO wx (wr.heap.size + 2) g rr V pp qq) ∧ Hid (Chg [] w2 wx))
              case first =>
                clear hL hM hn9 hn hgt hgt2 hpos q0 q1 q2 h64' hacc2 hk' hn3 hle2
                have hlh3 := Lib.hid hlh2
                have hlh4 := Lib.hid hlh
                clear hlh2 hlh
                refine wp_region_held (S := fun w' => Chg [] w2 w') (by kernel_rfl) ?_
                (try (change wpAnyH _ _ _ _ _ _ _ _ (World.drew _)))
                have hHeld : Chg [] w2 (World.drew w2) := (Chg.refl _ _).drew
                refine wpAnyH_take (i := 0) (v := ?_) rfl (by kernel_rfl) (by kernel_rfl) (by kernel_rfl) (fun _ _ _ h => h) (Or.inl ⟨by kernel_rfl, ?_⟩) (by exact hHeld) ?_
                rotate_left
                · (intro w hSw; clear hSw; go_simp; try with_reducible rfl)
                change wpAnyH _ _ _ _ _ _ _ (Act.put _ (some 66) _) _
                (try simp only [Act.put, List.setIfInBounds_toArray, List.set_cons_zero, List.set_cons_succ])
                refine wpAnyH_take (i := 1) (v := ?_) rfl (by kernel_rfl) (by kernel_rfl) (by kernel_rfl) (fun _ _ _ h => h) (Or.inl ⟨by kernel_rfl, ?_⟩) (by exact hHeld) ?_
                rotate_left
                · (intro w hSw; have hq := y7.out w hSw; clear hSw; (try obtain ⟨hq, hq2, hq3⟩ := hq); go_simp; try with_reducible rfl)
                change wpAnyH _ _ _ _ _ _ _ (Act.put _ (some 67) _) _
                (try simp only [Act.put, List.setIfInBounds_toArray, List.set_cons_zero, List.set_cons_succ])
                refine wpAnyH_take (i := 2) (v := ?_) rfl (by kernel_rfl) (by kernel_rfl) (by kernel_rfl) (fun _ _ _ h => h) (Or.inl ⟨by kernel_rfl, ?_⟩) (by exact hHeld) ?_
                rotate_left
                · (intro w hSw; have hq := y2.out w hSw; clear hSw; (try obtain ⟨hq, hq2, hq3⟩ := hq); go_simp; try with_reducible rfl)
                change wpAnyH _ _ _ _ _ _ _ (Act.put _ (some 68) _) _
                (try simp only [Act.put, List.setIfInBounds_toArray, List.set_cons_zero, List.set_cons_succ])
                refine wpAnyH_take (i := 4) (v := ?_) rfl (by kernel_rfl) (by kernel_rfl) (by kernel_rfl) (fun _ _ _ h => h) (Or.inl ⟨by kernel_rfl, ?_⟩) (by exact hHeld) ?_
                rotate_left
                · (intro w hSw; clear hSw; go_simp; try with_reducible rfl)
                change wpAnyH _ _ _ _ _ _ _ (Act.put _ (some 70) _) _
                (try simp only [Act.put, List.setIfInBounds_toArray, List.set_cons_zero, List.set_cons_succ])
                refine wpAnyH_take (i := 5) (v := ?_) rfl (by kernel_rfl) (by kernel_rfl) (by kernel_rfl) (fun _ _ _ h => h) (Or.inl ⟨by kernel_rfl, ?_⟩) (by exact hHeld) ?_
                rotate_left
                · (intro w hSw; have hq := y7.out w hSw; clear hSw; (try obtain ⟨hq, hq2, hq3⟩ := hq); go_simp; try with_reducible rfl)
                change wpAnyH _ _ _ _ _ _ _ (Act.put _ (some 71) _) _
                (try simp only [Act.put, List.setIfInBounds_toArray, List.set_cons_zero, List.set_cons_succ])
                refine wpAnyH_take (i := 6) (v := ?_) rfl (by kernel_rfl) (by kernel_rfl) (by kernel_rfl) (fun _ _ _ h => h) (Or.inl ⟨by kernel_rfl, ?_⟩) (by exact hHeld) ?_
                rotate_left
                · (intro w hSw; clear hSw; go_simp; try with_reducible rfl)
                change wpAnyH _ _ _ _ _ _ _ (Act.put _ (some 72) _) _
                (try simp only [Act.put, List.setIfInBounds_toArray, List.set_cons_zero, List.set_cons_succ])
                refine wpAnyH_take (i := 7) (v := ?_) rfl (by kernel_rfl) (by kernel_rfl) (by kernel_rfl) (fun _ _ _ h => h) (Or.inl ⟨by kernel_rfl, ?_⟩) (by exact hHeld) ?_
                rotate_left
                · (intro w hSw; have hq := y7.out w hSw; clear hSw; (try obtain ⟨hq, hq2, hq3⟩ := hq); go_simp; try with_reducible rfl)
                change wpAnyH _ _ _ _ _ _ _ (Act.put _ (some 73) _) _
                (try simp only [Act.put, List.setIfInBounds_toArray, List.set_cons_zero, List.set_cons_succ])
                refine wpAnyH_take (i := 8) (v := ?_) rfl (by kernel_rfl) (by kernel_rfl) (by kernel_rfl) (fun _ _ _ h => h) (Or.inl ⟨by kernel_rfl, ?_⟩) (by exact hHeld) ?_
                rotate_left
                · (intro w hSw; clear hSw; go_simp; try with_reducible rfl)
                change wpAnyH _ _ _ _ _ _ _ (Act.put _ (some 74) _) _
                (try simp only [Act.put, List.setIfInBounds_toArray, List.set_cons_zero, List.set_cons_succ])
                refine wpAnyH_all (rs := [3, 13]) (by kernel_rfl) (by simp) ?_
                refine AllReadyH.cons rfl (fun K hK => ?_) ?_
                · go_simp
                  go_wp2_with (first
                      | (go_at_call 28; refine (hop.out _ (by exact hHeld)).mono ?_; rintro e w7 ⟨rfl, hC7⟩; (try replace hT := WS.chg hT hC7 (by simp)))
                      | (go_at_call 16; refine (hsc.out _).mono ?_; rintro e w9 h9; obtain ⟨hC10, V, pp, qq, rfl, hSc⟩ := h9.some; (try replace hT := WS.chg hT hC10 (by simp))))
                  refine hK.out _ _ (by first | exact hHeld | exact Chg.trans hHeld (by assumption) | exact Chg.alloc hHeld _ | exact Chg.alloc hH9 _ | exact (Chg.setCell hHeld (.inr hge) _).setCell (.inr hge) _ | exact (Chg.setCell hHeld (.inl (by simp)) _).setCell (.inl (by simp)) _) (fun hHeld => ?_)
                  clear hK K
                  (try simp only [Act.put, List.setIfInBounds_toArray, List.set_cons_zero, List.set_cons_succ])
                  (have hH7 := hHeld; (try have hg7 := lt_heap hT))
                  refine wpAnyH_all (rs := [9, 13]) (by kernel_rfl) (by simp) ?_
                  refine AllReadyH.cons rfl (fun K hK => ?_) ?_
                  · go_simp
                    go_wp2_with (first
                        | (go_at_call 28; refine (hop.out _ (by exact hHeld)).mono ?_; rintro e w7 ⟨rfl, hC7⟩; (try replace hT := WS.chg hT hC7 (by simp)))
                        | (go_at_call 16; refine (hsc.out _).mono ?_; rintro e w9 h9; obtain ⟨hC10, V, pp, qq, rfl, hSc⟩ := h9.some; (try replace hT := WS.chg hT hC10 (by simp))))
                    refine hK.out _ _ (by first | exact hHeld | exact Chg.trans hHeld (by assumption) | exact Chg.alloc hHeld _ | exact Chg.alloc hH9 _ | exact (Chg.setCell hHeld (.inr hge) _).setCell (.inr hge) _ | exact (Chg.setCell hHeld (.inl (by simp)) _).setCell (.inl (by simp)) _) (fun hHeld => ?_)
                    clear hK K
                    (try simp only [Act.put, List.setIfInBounds_toArray, List.set_cons_zero, List.set_cons_succ])
                    have hH9 := hHeld
                    refine wpAnyH_take (i := 10) (v := ?_) rfl (by kernel_rfl) (by kernel_rfl) (by kernel_rfl) (fun _ _ _ h => h) (Or.inl ⟨by kernel_rfl, ?_⟩) (by exact hHeld) ?_
                    rotate_left
                    · (intro w hSw; clear hSw; go_simp; try with_reducible rfl)
                    change wpAnyH _ _ _ _ _ _ _ (Act.put _ (some 65) _) _
                    (try simp only [Act.put, List.setIfInBounds_toArray, List.set_cons_zero, List.set_cons_succ])
                    refine wpAnyH_take (i := 11) (v := ?_) rfl (by kernel_rfl) (by kernel_rfl) (by kernel_rfl) (fun _ _ _ h => h) (Or.inl ⟨by kernel_rfl, ?_⟩) (by exact hHeld) ?_
                    rotate_left
                    · (intro w hSw; clear hSw; go_simp; try with_reducible rfl)
                    change wpAnyH _ _ _ _ _ _ _ (Act.put _ (some 76) _) _
                    (try simp only [Act.put, List.setIfInBounds_toArray, List.set_cons_zero, List.set_cons_succ])
                    refine wpAnyH_take (i := 12) (v := ?_) rfl (by kernel_rfl) (by kernel_rfl) (by kernel_rfl) (fun _ _ _ h => h) (Or.inl ⟨by kernel_rfl, ?_⟩) (by exact hHeld) ?_
                    rotate_left
                    · (intro w hSw; clear hSw; go_simp; try with_reducible rfl)
                    change wpAnyH _ _ _ _ _ _ _ (Act.put _ (some 77) _) _
                    (try simp only [Act.put, List.setIfInBounds_toArray, List.set_cons_zero, List.set_cons_succ])
                    refine wpAnyH_all (rs := [13]) (by kernel_rfl) (by simp) ?_
                    refine AllReadyH.cons rfl (fun K hK => ?_) ?_
                    · go_simp
                      refine hK.out _ _ (by first | exact hHeld | exact Chg.trans hHeld (by assumption) | exact Chg.alloc hHeld _ | exact Chg.alloc hH9 _ | exact (Chg.setCell hHeld (.inr hge) _).setCell (.inr hge) _ | exact (Chg.setCell hHeld (.inl (by simp)) _).setCell (.inl (by simp)) _) (fun hHeld => ?_)
                      clear hK K
                      (try simp only [Act.put, List.setIfInBounds_toArray, List.set_cons_zero, List.set_cons_succ])
                      (first | (have hT := (show WS (w9.alloc (.cells #[.int .i64 0, .int .i64 0] 55)) w9.heap.size 0 0 from blk_new _ _); have hge := hH9.size) | (have hT := (show WS (w7.alloc (.cells #[.int .i64 0, .int .i64 0] 55)) w7.heap.size 0 0 from blk_new _ _); have hge := hH7.size) | (have hT := (show WS (w2.drew.alloc (.cells #[.int .i64 0, .int .i64 0] 55)) w2.heap.size 0 0 from blk_new _ _); have hge : w2.heap.size ≤ w2.heap.size := Nat.le_refl _))
                      refine wpAnyH_take (i := 14) (v := ?_) rfl (by kernel_rfl) (by kernel_rfl) (by kernel_rfl) (fun _ _ _ h => h) (Or.inl ⟨by kernel_rfl, ?_⟩) (by exact hHeld) ?_
                      rotate_left
                      · (intro w hSw; clear hSw; go_simp; try with_reducible rfl)
                      change wpAnyH _ _ _ _ _ _ _ (Act.put _ (some 9) _) _
                      (try simp only [Act.put, List.setIfInBounds_toArray, List.set_cons_zero, List.set_cons_succ])
                      (obtain ⟨t0, t1⟩ := WS.c0 hT; have tf0 := WS.f0 hT 0; have tf1 := WS.f0 hT 1)
                      refine wpAnyH_all (rs := [15]) (by kernel_rfl) (by simp) ?_
                      refine AllReadyH.cons rfl (fun K hK => ?_) ?_
                      · go_simp
                        refine hK.out _ _ (by first | exact hHeld | exact Chg.trans hHeld (by assumption) | exact Chg.alloc hHeld _ | exact Chg.alloc hH9 _ | exact (Chg.setCell hHeld (.inr hge) _).setCell (.inr hge) _ | exact (Chg.setCell hHeld (.inl (by simp)) _).setCell (.inl (by simp)) _) (fun hHeld => ?_)
                        clear hK K
                        (try simp only [Act.put, List.setIfInBounds_toArray, List.set_cons_zero, List.set_cons_succ])
                        refine wpAnyH_done (by kernel_rfl) ?_ _
                        (try simp only [Act.put, List.setIfInBounds_toArray, List.set_cons_zero, List.set_cons_succ])
                        go_wp2_with fail
                        go_meet
                        have hb7 : wr.heap.size + 2 ≤ w7.heap.size := by have h1 := hlh3.out; have h2 := hH7.size; omega
                        first
                        | exact ⟨w9.heap.size, V, pp, qq, rfl, rfl, hge, Lib.hid (blk_new _ _), Lib.hid (hSc _ _ [] _ hb7 ((Chg.refl [] w9).alloc _) (by simp) (.inr (Nat.le_refl _))), Lib.hid hHeld⟩
                        | exact ⟨w7.heap.size, V, pp, qq, rfl, rfl, hge, Lib.hid (hT.put _ _), Lib.hid (hSc _ _ [w7.heap.size] _ (by simp; omega) (((Chg.refl [w7.heap.size] w9).setCell (.inl (by simp)) _).setCell (.inl (by simp)) _) (by intro k hk; simp at hk; subst hk; left; simp) (.inl (by simp))), Lib.hid hHeld⟩
                        | exact ⟨w2.heap.size, V, pp, qq, rfl, rfl, hge, Lib.hid (hT.put _ _), Lib.hid (hSc _ _ [w2.heap.size] _ hb7 (((Chg.refl [w2.heap.size] w9).setCell (.inl (by simp)) _).setCell (.inl (by simp)) _) (by intro k hk; simp at hk; subst hk; exact .inl hg7) (.inl hg7)), Lib.hid hHeld⟩
                      exact AllReadyH.nil
                    exact AllReadyH.nil
                  refine AllReadyH.cons rfl (fun K hK => ?_) ?_
                  · go_simp
                    refine hK.out _ _ (by first | exact hHeld | exact Chg.trans hHeld (by assumption) | exact Chg.alloc hHeld _ | exact Chg.alloc hH9 _ | exact (Chg.setCell hHeld (.inr hge) _).setCell (.inr hge) _ | exact (Chg.setCell hHeld (.inl (by simp)) _).setCell (.inl (by simp)) _) (fun hHeld => ?_)
                    clear hK K
                    (try simp only [Act.put, List.setIfInBounds_toArray, List.set_cons_zero, List.set_cons_succ])
                    (first | (have hT := (show WS (w9.alloc (.cells #[.int .i64 0, .int .i64 0] 55)) w9.heap.size 0 0 from blk_new _ _); have hge := hH9.size) | (have hT := (show WS (w7.alloc (.cells #[.int .i64 0, .int .i64 0] 55)) w7.heap.size 0 0 from blk_new _ _); have hge := hH7.size) | (have hT := (show WS (w2.drew.alloc (.cells #[.int .i64 0, .int .i64 0] 55)) w2.heap.size 0 0 from blk_new _ _); have hge : w2.heap.size ≤ w2.heap.size := Nat.le_refl _))
                    refine wpAnyH_all (rs := [9]) (by kernel_rfl) (by simp) ?_
                    refine AllReadyH.cons rfl (fun K hK => ?_) ?_
                    · go_simp
                      go_wp2_with (first
                          | (go_at_call 28; refine (hop.out _ (by exact hHeld)).mono ?_; rintro e w7 ⟨rfl, hC7⟩; (try replace hT := WS.chg hT hC7 (by simp)))
                          | (go_at_call 16; refine (hsc.out _).mono ?_; rintro e w9 h9; obtain ⟨hC10, V, pp, qq, rfl, hSc⟩ := h9.some; (try replace hT := WS.chg hT hC10 (by simp))))
                      refine hK.out _ _ (by first | exact hHeld | exact Chg.trans hHeld (by assumption) | exact Chg.alloc hHeld _ | exact Chg.alloc hH9 _ | exact (Chg.setCell hHeld (.inr hge) _).setCell (.inr hge) _ | exact (Chg.setCell hHeld (.inl (by simp)) _).setCell (.inl (by simp)) _) (fun hHeld => ?_)
                      clear hK K
                      (try simp only [Act.put, List.setIfInBounds_toArray, List.set_cons_zero, List.set_cons_succ])
                      have hH9 := hHeld
                      refine wpAnyH_take (i := 10) (v := ?_) rfl (by kernel_rfl) (by kernel_rfl) (by kernel_rfl) (fun _ _ _ h => h) (Or.inl ⟨by kernel_rfl, ?_⟩) (by exact hHeld) ?_
                      rotate_left
                      · (intro w hSw; clear hSw; go_simp; try with_reducible rfl)
                      change wpAnyH _ _ _ _ _ _ _ (Act.put _ (some 65) _) _
                      (try simp only [Act.put, List.setIfInBounds_toArray, List.set_cons_zero, List.set_cons_succ])
                      refine wpAnyH_take (i := 11) (v := ?_) rfl (by kernel_rfl) (by kernel_rfl) (by kernel_rfl) (fun _ _ _ h => h) (Or.inl ⟨by kernel_rfl, ?_⟩) (by exact hHeld) ?_
                      rotate_left
                      · (intro w hSw; clear hSw; go_simp; try with_reducible rfl)
                      change wpAnyH _ _ _ _ _ _ _ (Act.put _ (some 76) _) _
                      (try simp only [Act.put, List.setIfInBounds_toArray, List.set_cons_zero, List.set_cons_succ])
                      refine wpAnyH_take (i := 12) (v := ?_) rfl (by kernel_rfl) (by kernel_rfl) (by kernel_rfl) (fun _ _ _ h => h) (Or.inl ⟨by kernel_rfl, ?_⟩) (by exact hHeld) ?_
                      rotate_left
                      · (intro w hSw; clear hSw; go_simp; try with_reducible rfl)
                      change wpAnyH _ _ _ _ _ _ _ (Act.put _ (some 77) _) _
                      (try simp only [Act.put, List.setIfInBounds_toArray, List.set_cons_zero, List.set_cons_succ])
                      refine wpAnyH_take (i := 14) (v := ?_) rfl (by kernel_rfl) (by kernel_rfl) (by kernel_rfl) (fun _ _ _ h => h) (Or.inl ⟨by kernel_rfl, ?_⟩) (by exact hHeld) ?_
                      rotate_left
                      · (intro w hSw; clear hSw; go_simp; try with_reducible rfl)
                      change wpAnyH _ _ _ _ _ _ _ (Act.put _ (some 9) _) _
                      (try simp only [Act.put, List.setIfInBounds_toArray, List.set_cons_zero, List.set_cons_succ])
                      (obtain ⟨t0, t1⟩ := WS.c0 hT; have tf0 := WS.f0 hT 0; have tf1 := WS.f0 hT 1)
                      refine wpAnyH_all (rs := [15]) (by kernel_rfl) (by simp) ?_
                      refine AllReadyH.cons rfl (fun K hK => ?_) ?_
                      · go_simp
                        refine hK.out _ _ (by first | exact hHeld | exact Chg.trans hHeld (by assumption) | exact Chg.alloc hHeld _ | exact Chg.alloc hH9 _ | exact (Chg.setCell hHeld (.inr hge) _).setCell (.inr hge) _ | exact (Chg.setCell hHeld (.inl (by simp)) _).setCell (.inl (by simp)) _) (fun hHeld => ?_)
                        clear hK K
                        (try simp only [Act.put, List.setIfInBounds_toArray, List.set_cons_zero, List.set_cons_succ])
                        refine wpAnyH_done (by kernel_rfl) ?_ _
                        (try simp only [Act.put, List.setIfInBounds_toArray, List.set_cons_zero, List.set_cons_succ])
                        go_wp2_with fail
                        go_meet
                        have hb7 : wr.heap.size + 2 ≤ w7.heap.size := by have h1 := hlh3.out; have h2 := hH7.size; omega
                        first
                        | exact ⟨w9.heap.size, V, pp, qq, rfl, rfl, hge, Lib.hid (blk_new _ _), Lib.hid (hSc _ _ [] _ hb7 ((Chg.refl [] w9).alloc _) (by simp) (.inr (Nat.le_refl _))), Lib.hid hHeld⟩
                        | exact ⟨w7.heap.size, V, pp, qq, rfl, rfl, hge, Lib.hid (hT.put _ _), Lib.hid (hSc _ _ [w7.heap.size] _ (by simp; omega) (((Chg.refl [w7.heap.size] w9).setCell (.inl (by simp)) _).setCell (.inl (by simp)) _) (by intro k hk; simp at hk; subst hk; left; simp) (.inl (by simp))), Lib.hid hHeld⟩
                        | exact ⟨w2.heap.size, V, pp, qq, rfl, rfl, hge, Lib.hid (hT.put _ _), Lib.hid (hSc _ _ [w2.heap.size] _ hb7 (((Chg.refl [w2.heap.size] w9).setCell (.inl (by simp)) _).setCell (.inl (by simp)) _) (by intro k hk; simp at hk; subst hk; exact .inl hg7) (.inl hg7)), Lib.hid hHeld⟩
                      exact AllReadyH.nil
                    exact AllReadyH.nil
                  exact AllReadyH.nil
                refine AllReadyH.cons rfl (fun K hK => ?_) ?_
                · go_simp
                  refine hK.out _ _ (by first | exact hHeld | exact Chg.trans hHeld (by assumption) | exact Chg.alloc hHeld _ | exact Chg.alloc hH9 _ | exact (Chg.setCell hHeld (.inr hge) _).setCell (.inr hge) _ | exact (Chg.setCell hHeld (.inl (by simp)) _).setCell (.inl (by simp)) _) (fun hHeld => ?_)
                  clear hK K
                  (try simp only [Act.put, List.setIfInBounds_toArray, List.set_cons_zero, List.set_cons_succ])
                  (first | (have hT := (show WS (w9.alloc (.cells #[.int .i64 0, .int .i64 0] 55)) w9.heap.size 0 0 from blk_new _ _); have hge := hH9.size) | (have hT := (show WS (w7.alloc (.cells #[.int .i64 0, .int .i64 0] 55)) w7.heap.size 0 0 from blk_new _ _); have hge := hH7.size) | (have hT := (show WS (w2.drew.alloc (.cells #[.int .i64 0, .int .i64 0] 55)) w2.heap.size 0 0 from blk_new _ _); have hge : w2.heap.size ≤ w2.heap.size := Nat.le_refl _))
                  refine wpAnyH_all (rs := [3]) (by kernel_rfl) (by simp) ?_
                  refine AllReadyH.cons rfl (fun K hK => ?_) ?_
                  · go_simp
                    go_wp2_with (first
                        | (go_at_call 28; refine (hop.out _ (by exact hHeld)).mono ?_; rintro e w7 ⟨rfl, hC7⟩; (try replace hT := WS.chg hT hC7 (by simp)))
                        | (go_at_call 16; refine (hsc.out _).mono ?_; rintro e w9 h9; obtain ⟨hC10, V, pp, qq, rfl, hSc⟩ := h9.some; (try replace hT := WS.chg hT hC10 (by simp))))
                    refine hK.out _ _ (by first | exact hHeld | exact Chg.trans hHeld (by assumption) | exact Chg.alloc hHeld _ | exact Chg.alloc hH9 _ | exact (Chg.setCell hHeld (.inr hge) _).setCell (.inr hge) _ | exact (Chg.setCell hHeld (.inl (by simp)) _).setCell (.inl (by simp)) _) (fun hHeld => ?_)
                    clear hK K
                    (try simp only [Act.put, List.setIfInBounds_toArray, List.set_cons_zero, List.set_cons_succ])
                    (have hH7 := hHeld; (try have hg7 := lt_heap hT))
                    refine wpAnyH_all (rs := [9]) (by kernel_rfl) (by simp) ?_
                    refine AllReadyH.cons rfl (fun K hK => ?_) ?_
                    · go_simp
                      go_wp2_with (first
                          | (go_at_call 28; refine (hop.out _ (by exact hHeld)).mono ?_; rintro e w7 ⟨rfl, hC7⟩; (try replace hT := WS.chg hT hC7 (by simp)))
                          | (go_at_call 16; refine (hsc.out _).mono ?_; rintro e w9 h9; obtain ⟨hC10, V, pp, qq, rfl, hSc⟩ := h9.some; (try replace hT := WS.chg hT hC10 (by simp))))
                      refine hK.out _ _ (by first | exact hHeld | exact Chg.trans hHeld (by assumption) | exact Chg.alloc hHeld _ | exact Chg.alloc hH9 _ | exact (Chg.setCell hHeld (.inr hge) _).setCell (.inr hge) _ | exact (Chg.setCell hHeld (.inl (by simp)) _).setCell (.inl (by simp)) _) (fun hHeld => ?_)
                      clear hK K
                      (try simp only [Act.put, List.setIfInBounds_toArray, List.set_cons_zero, List.set_cons_succ])
                      have hH9 := hHeld
                      refine wpAnyH_take (i := 10) (v := ?_) rfl (by kernel_rfl) (by kernel_rfl) (by kernel_rfl) (fun _ _ _ h => h) (Or.inl ⟨by kernel_rfl, ?_⟩) (by exact hHeld) ?_
                      rotate_left
                      · (intro w hSw; clear hSw; go_simp; try with_reducible rfl)
                      change wpAnyH _ _ _ _ _ _ _ (Act.put _ (some 65) _) _
                      (try simp only [Act.put, List.setIfInBounds_toArray, List.set_cons_zero, List.set_cons_succ])
                      refine wpAnyH_take (i := 11) (v := ?_) rfl (by kernel_rfl) (by kernel_rfl) (by kernel_rfl) (fun _ _ _ h => h) (Or.inl ⟨by kernel_rfl, ?_⟩) (by exact hHeld) ?_
                      rotate_left
                      · (intro w hSw; clear hSw; go_simp; try with_reducible rfl)
                      change wpAnyH _ _ _ _ _ _ _ (Act.put _ (some 76) _) _
                      (try simp only [Act.put, List.setIfInBounds_toArray, List.set_cons_zero, List.set_cons_succ])
                      refine wpAnyH_take (i := 12) (v := ?_) rfl (by kernel_rfl) (by kernel_rfl) (by kernel_rfl) (fun _ _ _ h => h) (Or.inl ⟨by kernel_rfl, ?_⟩) (by exact hHeld) ?_
                      rotate_left
                      · (intro w hSw; clear hSw; go_simp; try with_reducible rfl)
                      change wpAnyH _ _ _ _ _ _ _ (Act.put _ (some 77) _) _
                      (try simp only [Act.put, List.setIfInBounds_toArray, List.set_cons_zero, List.set_cons_succ])
                      refine wpAnyH_take (i := 14) (v := ?_) rfl (by kernel_rfl) (by kernel_rfl) (by kernel_rfl) (fun _ _ _ h => h) (Or.inl ⟨by kernel_rfl, ?_⟩) (by exact hHeld) ?_
                      rotate_left
                      · (intro w hSw; clear hSw; go_simp; try with_reducible rfl)
                      change wpAnyH _ _ _ _ _ _ _ (Act.put _ (some 9) _) _
                      (try simp only [Act.put, List.setIfInBounds_toArray, List.set_cons_zero, List.set_cons_succ])
                      (obtain ⟨t0, t1⟩ := WS.c0 hT; have tf0 := WS.f0 hT 0; have tf1 := WS.f0 hT 1)
                      refine wpAnyH_all (rs := [15]) (by kernel_rfl) (by simp) ?_
                      refine AllReadyH.cons rfl (fun K hK => ?_) ?_
                      · go_simp
                        refine hK.out _ _ (by first | exact hHeld | exact Chg.trans hHeld (by assumption) | exact Chg.alloc hHeld _ | exact Chg.alloc hH9 _ | exact (Chg.setCell hHeld (.inr hge) _).setCell (.inr hge) _ | exact (Chg.setCell hHeld (.inl (by simp)) _).setCell (.inl (by simp)) _) (fun hHeld => ?_)
                        clear hK K
                        (try simp only [Act.put, List.setIfInBounds_toArray, List.set_cons_zero, List.set_cons_succ])
                        refine wpAnyH_done (by kernel_rfl) ?_ _
                        (try simp only [Act.put, List.setIfInBounds_toArray, List.set_cons_zero, List.set_cons_succ])
                        go_wp2_with fail
                        go_meet
                        have hb7 : wr.heap.size + 2 ≤ w7.heap.size := by have h1 := hlh3.out; have h2 := hH7.size; omega
                        first
                        | exact ⟨w9.heap.size, V, pp, qq, rfl, rfl, hge, Lib.hid (blk_new _ _), Lib.hid (hSc _ _ [] _ hb7 ((Chg.refl [] w9).alloc _) (by simp) (.inr (Nat.le_refl _))), Lib.hid hHeld⟩
                        | exact ⟨w7.heap.size, V, pp, qq, rfl, rfl, hge, Lib.hid (hT.put _ _), Lib.hid (hSc _ _ [w7.heap.size] _ (by simp; omega) (((Chg.refl [w7.heap.size] w9).setCell (.inl (by simp)) _).setCell (.inl (by simp)) _) (by intro k hk; simp at hk; subst hk; left; simp) (.inl (by simp))), Lib.hid hHeld⟩
                        | exact ⟨w2.heap.size, V, pp, qq, rfl, rfl, hge, Lib.hid (hT.put _ _), Lib.hid (hSc _ _ [w2.heap.size] _ hb7 (((Chg.refl [w2.heap.size] w9).setCell (.inl (by simp)) _).setCell (.inl (by simp)) _) (by intro k hk; simp at hk; subst hk; exact .inl hg7) (.inl hg7)), Lib.hid hHeld⟩
                      exact AllReadyH.nil
                    exact AllReadyH.nil
                  exact AllReadyH.nil
                exact AllReadyH.nil
              case rest =>
              obtain ⟨g, V, pp, qq, rfl, rfl, hge, hWS, hSc, hC3⟩ := hcut
              obtain ⟨w3, rfl⟩ : ∃ w3, w3 = wc := ⟨_, rfl⟩
              obtain ⟨t0, t1⟩ := hWS.out.c0
              rcases hSc.out with ⟨l, A5, c5, hl, rfl, rfl, rfl, hOp⟩ | ⟨hl, hq0, rfl⟩
              · have hBd2 : Hid (bodyA rec (wd :: l3) = .ok (l, l3)) := Lib.hid (by rw [hBd.out, hl])
                have hA3 := Lib.hid (hA2.out.chg hC3.out (by simp))
                have a4 := hA3.out.c0.2.2.2.2
                have g4 := hA3.out.f0 4
                have hA4 := Lib.hid (hA3.out.put1 (.slice A5 (List.length l) c5))
                have hS := (Chg.refl [wr.heap.size + 1] w3).setCell (p := ⟨wr.heap.size + 1, 4, none⟩) (.inl (by simp)) (.slice A5 (List.length l) c5)
                have hOp2 := Lib.hid ((OpsV.chg hOp hS (fun q hq _ hm => by simp at hm; have := hq.1; omega)).imp (B' := fun q => Bf q ∧ q ≠ wr.heap.size + 1) (fun q hq _ => by
                  have h1 := hq.1
                  rw [← hBf.out]
                  exact ⟨⟨hB.out q (by omega), by omega, fun e => by have := (oI.out.lt q e).2; omega⟩, by omega⟩))
                have hC4 := Lib.hid (((hC2.out.trans hC3.out).setCell (p := ⟨wr.heap.size + 1, 4, none⟩) (.inr (by show wr.heap.size ≤ wr.heap.size + 1; omega)) (.slice A5 (List.length l) c5)))
                have hC5 := Lib.hid (((Chg.mono hC3.out (S1 := [wr.heap.size + 1]) (by simp)).trans hS))
                have hW4 := Lib.hid ((hW3.out.chg hC3.out (fun _ _ _ => by simp)).chg hS (fun q hq _ hm => by
                  rw [← hBo.out] at hq
                  have := hq.2
                  simp at hm; omega))
                clear hOp hS hWS hSc hBd hop hsc y2 y7
                go_wp2_with fail
                go_meet
                exact ⟨l, l3, A3, c3, A5, c5, rfl, hBd2, hW4, hA4, hOp2, hC4, hC5⟩
              · have hE : R = .error (pp, qq) := by have := hst2.out; rw [hBd.out, hl] at this; exact this.symm
                replace hE := Lib.hid hE
                have hne : ((qq : Int) != 0) = true := by simp; omega
                have sN := Lib.hid (sI.out.chg (hC2.out.trans hC3.out) (by simp))
                have cN := Lib.hid (cI.out.trans (hC2.out.trans hC3.out))
                obtain ⟨s0, s1⟩ := sN.out.c0
                have f0 := sN.out.f0 0
                have f1 := sN.out.f0 1
                replace hq0 := Lib.hid hq0
                clear hst2 hBd hl hSc hop hsc y2 y7
                go_upto_region 19 with fail
                refine wp_region_any (by kernel_rfl) ?_
                (try (change wpAny _ _ _ _ _ _ _ (World.drew _)))
                refine wpAny_take (i := 1) (v := ?_) rfl (by kernel_rfl) (by kernel_rfl) (by kernel_rfl) (fun _ _ _ h => h) (Or.inl ⟨by kernel_rfl, ?_⟩) ?_
                rotate_left
                · (intro w; go_simp; try with_reducible rfl)
                change wpAny _ _ _ _ _ _ (Act.put _ (some 2) _) _
                (try simp only [Act.put, List.setIfInBounds_toArray, List.set_cons_zero, List.set_cons_succ])
                refine wpAny_ready (rs := [0]) (by kernel_rfl) (by simp) ?_
                refine AllReady.cons rfl (fun K hK => ?_) ?_
                · go_simp
                  (try (refine hK _ _ ?_; clear hK K))
                  (try simp only [Act.put, List.setIfInBounds_toArray, List.set_cons_zero, List.set_cons_succ])
                  refine wpAny_ready (rs := [2]) (by kernel_rfl) (by simp) ?_
                  refine AllReady.cons rfl (fun K hK => ?_) ?_
                  · go_simp
                    (try (refine hK _ _ ?_; clear hK K))
                    (try simp only [Act.put, List.setIfInBounds_toArray, List.set_cons_zero, List.set_cons_succ])
                    refine wpAny_done (by kernel_rfl) ?_ _
                    (try simp only [Act.put, List.setIfInBounds_toArray, List.set_cons_zero, List.set_cons_succ])
                    go_wp2_with fail
                    (try rw [Exit.noGoto_ret])
                    have hF := WS.put (w := w3.drew) sN.out pp qq
                    refine bodyPost_ret (v := .tuple #[.slice none 0 0, .agg #[.int .i64 pp, .int .i64 qq]]) ?_ rfl ⟨(cN.out.drew.setCell (.inr (Nat.le_refl _)) _).setCell (.inr (Nat.le_refl _)) _, .inr ⟨pp, qq, hE.out, hq0.out, rfl⟩⟩
                    exact results_tmp_cell rfl _ _ _ 55 _ (0, 0) _ rfl _ rfl hF Try.underlying55 rfl (by kernel_rfl)
                  exact AllReady.nil
                exact AllReady.nil
        case rest =>
        obtain ⟨body, l3, A3, c3, Ab, cb, rfl, hBd, hW3, hA3, hOp, hC3, hC4⟩ := hcut
        obtain ⟨w3, rfl⟩ : ∃ w3, w3 = wc := ⟨_, rfl⟩
        have hst3 : armsGo rec k' l3 (acc ++ [.mk kd p body]) = R := by have := hst2.out; rw [hBd.out] at this; exact this
        have hle3 := bodyA_le hBd.out
        have hwd3 := Lib.hid (bodyA_sub hwd2.out hBd.out)
        rw [hm2.out] at hle3
        have hsz3 := hC3.out.size
        have oI3 := own_chg oI.out hC3.out (by simp)
        have aI3 := armsC.chg hC3.out (fun _ _ _ => by simp) _ _ aI.out
        rw [hBf.out] at aI3
        have hW4 : wordC w3 Bf [.int .i64 p.at_, .int .i64 p.kind, .slice Ap2 p.parts.length cp2] p := by
          obtain ⟨k1, k2⟩ := hPB.out
          refine (wordC.chg (w := w2) (B := Bo) ⟨Ap2, cp2, rfl, k1, k2⟩ hC4.out (fun q hq _ hm => ?_)).imp (fun q hq _ => by rw [← hBo.out] at hq; exact hq.1)
          rw [← hBo.out] at hq
          have := hq.2
          simp at hm; omega
        have hArm : armC w3 Bf [.int .i64 kd, .int .i64 p.at_, .int .i64 p.kind, .slice Ap2 p.parts.length cp2, .slice Ab (List.length body) cb] (.mk kd p body) := by
          obtain ⟨xs, k1, k2, k3⟩ := hOp.out
          rw [armC]
          exact ⟨_, Ab, cb, xs, rfl, hW4, k1, k2.imp (fun q hq _ => hq.1), opsC.imp (fun q hq _ => hq.1) _ _ k3⟩
        have hall := Lib.hid (armsC.snoc hArm aI3)
        have cI3 := Lib.hid (cI.out.trans hC3.out)
        have sI3 := Lib.hid (sI.out.chg hC3.out (by simp))
        have hR2 := Lib.hid (⟨hst3, hle3⟩ : armsGo rec k' l3 (acc ++ [.mk kd p body]) = R ∧ l3.length ≤ m2)
        have hgm : l3.length < gk := by have h1 := headA_le hH'.out; rw [hm1.out, hm2.out] at h1; have := hgl.out; have h2 := hm1.out; omega
        have hlk : l3.length ≤ k' := by omega
        obtain ⟨z0, z1, z2, z3, z4⟩ := hA3.out.c0
        obtain ⟨sl2, hsl2⟩ : ∃ v, Value.slice Ap2 p.parts.length cp2 = v := ⟨_, rfl⟩
        obtain ⟨sl3, hsl3⟩ : ∃ v, Value.slice Ab (List.length body) cb = v := ⟨_, rfl⟩
        have ho2 : sl2.oneCell' = true := by rw [← hsl2]; rfl
        have ho3 : sl3.oneCell' = true := by rw [← hsl3]; rfl
        rw [hsl2, hsl3] at hall
        rw [hsl2] at z3
        rw [hsl3] at z4
        have oI3' := Lib.hid oI3
        have hbase : w.heap.size + 1 ≤ w3.heap.size := by omega
        clear hst2 hBd hle3 hst3 hOp hA3 hArm hW4 aI3 oI3 hsl2 hsl3 hPB hA2 hz hC4 hlh q0 q1 q2 hle2 hgt hgt2 hpos h64'
        go_wp2_with (at_builtin; refine wpList_append_sl rfl (.tmp 86) (.tmp 88) 33 rfl (w.heap.size + 1) 40 (.agg #[.int .i64 0, .int .i64 0, .int .i64 0, .slice none 0 0, .slice none 0 0]) 5 72 Try.underlying33 Try.info_arm rfl (by decide) _ (List.length acc) zs rfl (oI3'.out.alloc _) _ 1 [.int .i64 kd, .int .i64 p.at_, .int .i64 p.kind, sl2, sl3] rfl (sl_wide_new w3 _ 40 5 rfl) (by intro u hu; simp at hu; rcases hu with rfl | rfl | rfl | rfl | rfl <;> first | rfl | exact ho2 | exact ho3) (List.length acc + 1) rfl (by omega) (by decide) (by simp; omega) ?_)
        intro A' c' w4 hO' hCh hat
        have hlen : List.length (acc ++ [Arm.mk kd p body]) = List.length acc + 1 := by simp
        have hCh2 : Chg (Value.slice Aa (List.length acc) ca).ownBlock.toList w3 w4 := ((Chg.refl _ w3).alloc _).trans hCh
        have hnew : ∀ q, q < w3.heap.size → (Value.slice Aa (List.length acc) ca).ownBlock ≠ some q → (Value.slice A' (List.length acc + 1) c').ownBlock ≠ some q := fun q hq hn e => by
          rcases hat with h | h
          · exact hn (h ▸ e)
          · have := h q e; (try simp at this); omega
        have hoff : ∀ q, Bf q → q < w3.heap.size → q ∉ (Value.slice Aa (List.length acc) ca).ownBlock.toList := fun q hq _ hm => by
          rw [← hBf.out] at hq
          simp at hm
          exact hq.2.2 hm
        have hto : ∀ q, (Bf q ∧ q < w3.heap.size) → q < w4.heap.size → Off B w.heap.size (.slice A' (List.length acc + 1) c') q := fun q hq _ => by
          obtain ⟨h1, h2⟩ := hq
          rw [← hBf.out] at h1
          exact ⟨h1.1, h1.2.1, hnew q h2 h1.2.2⟩
        have hI' : LsI w w4 B A3 c3 l3 A' c' (acc ++ [Arm.mk kd p body]) (zs ++ [.int .i64 kd, .int .i64 p.at_, .int .i64 p.kind, sl2, sl3]) := by
          unfold LsI
          rw [hlen]
          refine ⟨?_, hO', ?_, cI3.out.then hCh2 (fun q hq => .inr (by have := (oI.out.lt q (by simpa using hq)).1; omega)), sI3.out.chg hCh2 (fun hm => hn3 (by simpa using hm))⟩
          · exact ((hW3.out.imp (B' := fun q => Bf q ∧ q < w3.heap.size) (fun q hq hl => by rw [← hBo.out] at hq; exact ⟨hq.1, hl⟩)).chg hCh2 (fun q hq hl => hoff q hq.1 hl)).imp hto
          · exact armsC.imp hto _ _ (armsC.chg hCh2 (fun q hq hl => hoff q hq.1 hl) _ _ (armsC.imp (fun q hq hl => ⟨hq, hl⟩) _ _ hall.out))
        replace hI' := Lib.hid hI'
        clear hO' hCh hat hCh2 hnew hoff hto hall cI3 sI3 hW3 z0 z1 z2 z3 z4
        go_wp2_with fail
        go_roundg l3.length
        case measure => exact hgm
        case rel => exact ⟨A3, c3, k', l3, A', c', acc ++ [Arm.mk kd p body], _, rfl, by rw [hlen], rfl, hlk, by rw [hlen]; exact hacc2, hI', hwd3, Lib.hid hR2.out.1⟩
end Pl
end Go.Proofs.Ytakcolililbkjaa
