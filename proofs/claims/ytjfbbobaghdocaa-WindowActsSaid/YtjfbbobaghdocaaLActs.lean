/- WindowActs: the walk. No condition. -/
import Derived.Test.YtjfbbobaghdocaaWinLaw
import Derived.Test.YtjfbbobaghdocaaRPut
import Derived.Test.YtjfbbobaghdocaaActs
import Derived.Deep.LoopGhost
import Derived.Deep.CutBlock
import Derived.Deep.DeepCutAuto
set_option linter.unusedVariables false
set_option linter.unusedSimpArgs false
namespace Go.Proofs.Ytjfbbobaghdocaa
open Go.RowKit
theorem act_new {w wa : World} {a b c : Value} {t : TypeId} (h : w.alloc (.cells #[a, b, c] t) = wa) :
    wa.cell? ⟨w.heap.size, 0, none⟩ = some a ∧ wa.cell? ⟨w.heap.size, 1, none⟩ = some b ∧ wa.cell? ⟨w.heap.size, 2, none⟩ = some c := by
  have hb := blk_new w (.cells #[a, b, c] t)
  rw [h] at hb
  simp [World.cell?, hb]
theorem Apart.step' {w : World} {g1 g2 : Nat} {r1 r1' r2 : Option Nat} (ha : Apart g1 r1 g2 r2) (h2 : g2 < w.heap.size) (h3 : ∀ x, r2 = some x → x < w.heap.size) (hr : ∀ q, r1' = some q → r1 = some q ∨ w.heap.size ≤ q) : Apart g1 r1' g2 r2 := by
  intro x hx
  simp only [List.mem_cons, Option.mem_toList] at hx
  rcases hx with rfl | hx
  · exact ha x (by simp)
  · rcases hr x hx with h1 | h1
    · exact ha x (by simp [h1])
    · intro hy
      simp only [List.mem_cons, Option.mem_toList] at hy
      rcases hy with rfl | hy
      · omega
      · have := h3 x hy; omega
/-- Both windows, as they stand between two acts. -/
structure Both (w0 w : World) (g1 g2 : Nat) (r q : Option Nat) (m t : Int) (h : Nat) (bs : List Int) : Prop where
  W : Win w g1 r m t h bs
  R : RWin w g2 q m t bs
  A : Apart g1 r g2 q
  Y1 : Young w0 g1 r
  Y2 : Young w0 g2 q
  C : Chg [] w0 w
theorem Both.alloc {w0 w wa : World} {g1 g2 : Nat} {r q : Option Nat} {m t : Int} {h : Nat} {bs : List Int} (B : Both w0 w g1 g2 r q m t h bs) (hc : Chg [] w wa) : Both w0 wa g1 g2 r q m t h bs :=
  ⟨B.W.chg hc (by simp) (by simp), B.R.chg hc (by simp) (by simp), B.A, B.Y1, B.Y2, B.C.trans hc⟩
/-- One step of the program's window. -/
theorem Both.left {w0 w w' : World} {g1 g2 : Nat} {r r' q : Option Nat} {m t m' t' : Int} {h h' : Nat} {bs bs' : List Int} (B : Both w0 w g1 g2 r q m t h bs) (hW : Win w' g1 r' m' t' h' bs')
    (hr : ∀ x, r' = some x → r = some x ∨ w.heap.size ≤ x) (hc : Chg (g1 :: r.toList) w w') : RWin w' g2 q m t bs ∧ Apart g1 r' g2 q ∧ Young w0 g1 r' ∧ Chg [] w0 w' := by
  have h2 := B.R.lt
  refine ⟨B.R.chg hc (fun e => B.A _ e (by simp)) (fun x hx e => B.A _ e (by simp [hx])), ?_, B.Y1.step B.C.size hr, B.Y1.chg B.C hc⟩
  exact B.A.step' (w := w) h2.1 (fun x hx => (h2.2 x hx).1) hr
/-- One step of the reference's behind it. -/
theorem Both.right {w0 w w' : World} {g1 g2 : Nat} {r q q' : Option Nat} {m' t' : Int} {h : Nat} {bs' : List Int} (hW : Win w g1 r m' t' h bs') (hA : Apart g1 r g2 q) (hY1 : Young w0 g1 r) (hY2 : Young w0 g2 q) (hC : Chg [] w0 w)
    (hR : RWin w' g2 q' m' t' bs') (hq : ∀ x, q' = some x → q = some x ∨ w.heap.size ≤ x) (hc : Chg [g2] w w') : Both w0 w' g1 g2 r q' m' t' h bs' := by
  have h1 := hW.lt
  have hg : Chg (g2 :: q.toList) w w' := hc.mono (by intro x hx; simp at hx; simp [hx])
  refine ⟨hW.keep hg hA, hR, (hA.symm.step' (w := w) h1.1 (fun x hx => (h1.2 x hx).1) hq).symm, hY1, hY2.step hC.size hq, hY2.chg hC hg⟩
set_option maxRecDepth 100000 in
set_option maxHeartbeats 16000000 in
theorem windowActs_walk (mo : Int) (A : Option Addr) (n c : Nat) (w : World) (h : ActsAt w A n) :
    Calls Try.prog 7 #[.int .i64 mo, .slice A n c] w fun e w' => e = .returned (.bool true) ∧ Below w.heap.size w w' := by
  have hgr := Lib.hid (fun w' (hc : Chg [] w w') => great_any A n c w' ⟨h.1, fun i hi => by obtain ⟨b, o, kd, N, A', n', c', ys, h1, h2⟩ := h.2 i hi; exact ⟨b, o, kd, N, A', n', c', ys, h1, h2.chg hc⟩⟩)
  obtain ⟨hmx, hat⟩ := h
  have hn63 : n ≤ 9223372036854775807 := by unfold maxLen at hmx; omega
  clear hmx
  have hm : 0 < mo ∨ mo ≤ 0 := by omega
  all_goals
    go_enter Try.func7, Try.ntmps7
    go_wp2_with fail
    refine (alive_any _).mono ?_
    rintro e w1 ⟨rfl, hC1⟩
    go_wp2_with fail
    refine (hgr.out w1 hC1).mono ?_
    rintro e w2 ⟨b, rfl, hb, hC2⟩
    replace hC2 := Lib.hid (hC1.trans hC2)
    cases b with
    | true =>
      clear hC1
      go_wp2_with fail
      refine (alive_any _).mono ?_
      rintro e w3 ⟨rfl, hC3⟩
      go_wp2_with fail
      go_ret
      exact ⟨rfl, (hC2.out.trans hC3).below⟩
    | false =>
      obtain ⟨hn80, hsm⟩ := hb rfl
      have hsm2 : Hid (∀ b o i kd N A' n' c' ys, i < n → A = some ⟨b, o, none⟩ → ActAt w b (o + i * 3) kd N A' n' c' ys → n' ≤ 80) := by
        intro b o i kd N A' n' c' ys hi e ha
        exact hsm b o i kd N A' n' c' ys hi e (ha.chg hC1)
      clear hsm hb hC1
      go_upto_region 3 with fail
      go_cut [5] (fun v5 wx => ∃ N : Int, v5 = .int .i64 N ∧ 1 ≤ N ∧ N ≤ 20 ∧ wx = w2)
      case first =>
        rcases hm with hm | hm
        all_goals
          go_wp2_with fail
          go_meet
          exact ⟨_, rfl, by omega, by omega, rfl⟩
      case rest =>
      obtain ⟨N, rfl, n1, n2, rfl⟩ := hcut
      go_wp2_with fail
      refine (new_any N _ (by omega) (by omega)).mono ?_
      rintro e w3 ⟨g1, rfl, hW3, hC3, hg1⟩
      have hB4 : ∀ W, W = w3.alloc (.cells #[.int .i64 N, .slice none 0 0, .int .i64 0] 42) → Both w W g1 w3.heap.size none none N 0 0 [] := fun W e => by
        have hc := (Chg.refl [] w3).alloc (.cells #[.int .i64 N, .slice none 0 0, .int .i64 0] 42)
        rw [← e] at hc
        have hl := hW3.lt.1
        have h0 := hC2.out.size
        have h3 := hC3.size
        refine ⟨hW3.chg hc (by simp) (by simp), ⟨none, 0, by rw [e]; exact blk_new _ _, Sl.nil _ _, rfl, by simp⟩, ?_, ?_, ?_, (hC2.out.trans hC3).trans hc⟩
        · intro x hx hy; simp at hx hy; omega
        · intro x hx; simp at hx; omega
        · intro x hx; simp at hx; omega
      replace hB4 := Lib.hid hB4
      obtain ⟨g2, hg2⟩ : ∃ g2, w3.heap.size = g2 := ⟨_, rfl⟩
      rw [hg2] at hB4
      clear hC2 hC3 hg1 hW3
      go_wp2_with fail
      go_loopg [9, 43] n (fun gg v9 v43 wr => ∃ (k : Nat) (r q : Option Nat) (t : Int) (hh : Nat) (bs : List Int) (m tp : Int), k ≤ n ∧ gg = n - k ∧ v43 = .int .i64 k ∧ v9 = .int .i64 tp ∧ Both w wr g1 g2 r q m t hh bs ∧ m ≤ tp ∧ tp ≤ 1048576 ∧ t ≤ 80 * k)
      case atStart => exact ⟨0, none, none, 0, 0, [], N, N, by omega, rfl, rfl, rfl, hB4.out _ rfl, by omega, by omega, by omega⟩
      case round =>
        obtain ⟨k, r, q, t, hh, bs, m, tp, hk, rfl, rfl, rfl, B, htp, htp2, ht⟩ := hrel
        have hbd := B.W.bounds
        by_cases hlt : k < n
        · obtain ⟨b, o, kd, N', A', n', c', ys, rfl, hA⟩ := hat k hlt
          have hn' := hsm2.out b o k kd N' A' n' c' ys hlt rfl hA
          obtain ⟨a1, a2, a3, hS, N1, N2, k1, k2⟩ := hA
          have a1 := B.C.cell a1 (by simp)
          have a2 := B.C.cell a2 (by simp)
          have a3 := B.C.cell a3 (by simp)
          have hz := B.W.lt
          have hz2 := B.R.lt
          replace B := Lib.hid B
          replace hz := Lib.hid hz
          replace hz2 := Lib.hid hz2
          replace hS := Lib.hid hS
          go_upto_block 2 with fail
          generalize hWa : World.alloc _ _ = wa
          obtain ⟨e0, e1, e2⟩ := act_new hWa
          have Ba := B.out.alloc (chg_of_eq hWa)
          have hSa := hS.out.chg Ba.C (by simp)
          have hSl := hS.out.lt
          have hyl : ys.length = n' := by have := hS.out.len; simpa using this
          have hza := hz.out
          have hza2 := hz2.out
          have hne1 : wr.heap.size ∉ g1 :: r.toList := by
            intro hx; simp only [List.mem_cons, Option.mem_toList] at hx
            rcases hx with hx | hx
            · have := hza.1; omega
            · have := (hza.2 _ hx).1; omega
          have hne2 : wr.heap.size ∉ [g2] := by
            intro hx; simp only [List.mem_cons, List.not_mem_nil, or_false] at hx
            have := hza2.1; omega
          have hne3 : wr.heap.size ∉ [g1] := fun h => hne1 (by simp at h; simp [h])
          clear hWa B
          go_cut [9, 43] from 44 to 139 (fun v9 v43 wx => v43 = .int .i64 k ∧ ∃ r9 q9 m9 t9 h9 bs9 tp9, v9 = .int .i64 tp9 ∧ Both w wx g1 g2 r9 q9 m9 t9 h9 bs9 ∧ m9 ≤ tp9 ∧ tp9 ≤ 1048576 ∧ t9 ≤ 80 * ((k : Int) + 1))
          case first =>
            have hcase : kd = 0 ∨ kd = 1 ∨ (kd = 2 ∧ 1 ≤ N' ∧ N' ≤ 1048576) ∨ (kd = 2 ∧ ¬ (1 ≤ N' ∧ N' ≤ 1048576)) ∨ (kd ≠ 0 ∧ kd ≠ 1 ∧ kd ≠ 2) := by omega
            rcases hcase with rfl | rfl | ⟨rfl, p1, p2⟩ | ⟨rfl, p1⟩ | ⟨p0, p1, p2⟩
            · go_wp2_with fail
              refine (put_h w wa g1 r m t hh bs Ba.W (.slice A' n' c') n' ys hSa (fun h0 => hSl (by omega)) Ba.C Ba.Y1 (by omega)).mono ?_
              rintro e w5 ⟨rfl, r5, h5, bs5, t5, hW5, hb5, ht5, hr5, hC5, hY5, hC5'⟩
              obtain ⟨hR5, hA5, -, -⟩ := Ba.left hW5 hr5 hC5
              have e5 := hC5.cell e2 hne1
              have hS5 := hS.out.chg hC5' (by simp)
              have hd5 : 0 < n' → (Value.slice A' n' c').ownBlock ≠ some g2 := fun h0 hq => by
                have h1 := hSl h0 g2 hq
                have h2 := Ba.Y2 g2 (by simp)
                omega
              have hY2 := Ba.Y2
              clear e0 e1 e2 Ba hSa hSl hC5 hza hza2 hr5
              replace hS5 := Lib.hid hS5
              replace hd5 := Lib.hid hd5
              replace hR5 := Lib.hid hR5
              replace hW5 := Lib.hid hW5
              replace hA5 := Lib.hid hA5
              replace hY5 := Lib.hid hY5
              replace hY2 := Lib.hid hY2
              replace hC5' := Lib.hid hC5'
              go_wp2_with fail
              refine (rput_any w5 g2 q m t bs hR5.out A' n' c' ys hS5.out hd5.out (by omega) (by omega) (by omega) (by omega) (by omega) (by omega)).mono ?_
              rintro e w9 ⟨rfl, q9, hR9, hq9, hC9⟩
              have B5 : Both w w9 g1 g2 r5 q9 m t5 h5 bs5 := Both.right hW5.out hA5.out hY5.out hY2.out hC5'.out (by rw [hb5.out, ht5.out, hyl]; exact hR9) hq9 hC9
              have ht5' : t5 ≤ 80 * (k + 1) := by have := ht5.out; omega
              replace B5 := Lib.hid B5
              go_wp2_with fail
              go_meet
              exact ⟨rfl, _, _, _, _, _, _, _, rfl, B5.out, htp, htp2, by omega⟩
            · go_wp2_with fail
              refine (cut_any g1 wa Ba.W).mono ?_
              rintro e w5 ⟨rfl, hW5, hC5⟩
              have hC6 : Chg (g1 :: r.toList) wa w5 := hC5.mono (by intro x hx; simp at hx; simp [hx])
              obtain ⟨hR5, hA5, hY5, hC5'⟩ := Ba.left hW5 (fun x h => .inl h) hC6
              have hY2 := Ba.Y2
              clear e0 e1 e2 Ba hSa hSl hC5 hC6 hza hza2
              replace hR5 := Lib.hid hR5
              replace hW5 := Lib.hid hW5
              replace hA5 := Lib.hid hA5
              replace hY5 := Lib.hid hY5
              replace hY2 := Lib.hid hY2
              replace hC5' := Lib.hid hC5'
              go_wp2_with fail
              refine (rcut_any w5 g2 q m t bs hR5.out).mono ?_
              rintro e w9 ⟨rfl, q9, hR9, hq9, hC9⟩
              have B5 : Both w w9 g1 g2 r q9 m 0 0 [] := Both.right hW5.out hA5.out hY5.out hY2.out hC5'.out hR9 hq9 hC9
              obtain ⟨A8, c8, x0, -, -, -⟩ := hR9.open
              have htp9 : m ≤ 1048576 := by omega
              replace B5 := Lib.hid B5
              go_wp2_with fail
              go_meet
              exact ⟨rfl, _, _, _, _, _, _, _, rfl, B5.out, Int.le_refl _, htp9, by omega⟩
            · have hmx0 : N' ≤ tp ∨ tp < N' := by omega
              rcases hmx0 with hmx | hmx
              all_goals
                go_wp2_with fail
                refine (most_good wa g1 r m t hh bs Ba.W N' p1 p2).mono ?_
                rintro e w5 ⟨rfl, r5, hW5, hr5, hC5⟩
                have hC6 : Chg (g1 :: r.toList) wa w5 := hC5.mono (by intro x hx; simp at hx; simp [hx])
                obtain ⟨hR5, hA5, hY5, hC5'⟩ := Ba.left hW5 (fun x h => .inr (hr5 x h)) hC6
                have hY2 := Ba.Y2
                have e5 := hC5.cell e1 hne3
                clear e0 e1 e2 Ba hSa hSl hC6 hza hza2 hr5
                replace hR5 := Lib.hid hR5
                replace hW5 := Lib.hid hW5
                replace hA5 := Lib.hid hA5
                replace hY5 := Lib.hid hY5
                replace hY2 := Lib.hid hY2
                replace hC5' := Lib.hid hC5'
                replace hC5 := Lib.hid hC5
                go_wp2_with fail
                refine (rset_any w5 g2 q m t N' bs hR5.out p1 p2 (by omega)).mono ?_
                rintro e w9 ⟨rfl, q9, hR9, hq9, hC9⟩
                have B5 : Both w w9 g1 g2 r5 q9 N' t (lastN N'.toNat bs).length (lastN N'.toNat bs) := Both.right hW5.out hA5.out hY5.out hY2.out hC5'.out hR9 hq9 hC9
                have e9 := hC9.cell e5 hne2
                replace B5 := Lib.hid B5
                go_wp2_with fail
                go_meet
                exact ⟨rfl, _, _, _, _, _, _, _, rfl, B5.out, by omega, by omega, by omega⟩
            · have hlo : N' < 1 ∨ 1048576 < N' := by omega
              rcases hlo with hlo | hlo
              all_goals
                go_wp2_with fail
                refine (most_bad wa g1 N' (by omega)).mono ?_
                rintro e w9 ⟨rfl, hw9⟩
                subst hw9
                have B5 := Lib.hid Ba
                go_wp2_with fail
                go_meet
                exact ⟨rfl, _, _, _, _, _, _, _, rfl, B5.out, htp, htp2, by omega⟩
            · have z0 : ¬ kd = 0 := p0
              have z1 : ¬ kd = 1 := p1
              have z2 : ¬ kd = 2 := p2
              have B5 := Lib.hid Ba
              go_wp2_with fail
              go_meet
              exact ⟨rfl, _, _, _, _, _, _, _, rfl, B5.out, htp, htp2, by omega⟩
          case rest =>
            obtain ⟨rfl, r9, q9, m9, t9, h9, bs9, tp9, rfl, B9, hm9, htp9, ht9⟩ := hcut
            obtain ⟨w9, hwe⟩ : ∃ x, x = wc := ⟨_, rfl⟩
            subst hwe
            obtain ⟨hW9, hR9, hA9, hY9a, hY9b, hC9⟩ := B9
            have hb9 := hW9.bounds
            obtain ⟨A9, c9, x0, x1, x2, hS9⟩ := hR9.open
            have hcb : ∀ w', Chg [] w9 w' → Calls Try.prog 12 #[.pointer (some ⟨g1, 0, none⟩)] w' _ := fun w' hc => bytes_str w' g1 (hW9.chg hc (by simp) (by simp)) _ rfl _ rfl
            have hct : ∀ w', Chg [] w9 w' → Calls Try.prog 13 #[.pointer (some ⟨g1, 0, none⟩)] w' _ := fun w' hc => total_any g1 w' (hW9.chg hc (by simp) (by simp))
            have y1 : ∀ w', Chg [] w9 w' → w'.cell? ⟨g2, 1, none⟩ = some (.slice A9 bs9.length c9) := fun w' hc => hc.cell x1 (by simp)
            have y2 : ∀ w', Chg [] w9 w' → w'.cell? ⟨g2, 2, none⟩ = some (.int .i64 t9) := fun w' hc => hc.cell x2 (by simp)
            have hv9 : ∀ w', Chg [] w9 w' → (convert 22 9 (.slice A9 bs9.length c9)).run Try.prog w' = .ok (.string (strOfNums bs9)) w' := fun w' hc =>
              sl_string (hS9.chg hc (by simp)) 22 5 9 Try.underlying22 Try.underlying5 Try.underlying9
            obtain ⟨nb, hnb⟩ : ∃ nb, bs9.length = nb := ⟨_, rfl⟩
            rw [hnb] at y1 hv9 hb9 hcb
            replace hnb := Lib.hid hnb
            have B9 := Lib.hid (Both.mk hW9 hR9 hA9 hY9a hY9b hC9)
            have d1 : decide (h9 < nb) = false := by simp; omega
            have d2 : decide (2 * tp9 < (h9 : Int)) = false := by simp; omega
            have d3 : IntKind.i64.wrap (2 * tp9) = 2 * tp9 := IntWalk.i64_in _ (by omega)
            replace hcb := Lib.hid hcb
            replace hct := Lib.hid hct
            replace y1 := Lib.hid y1
            replace y2 := Lib.hid y2
            replace hv9 := Lib.hid hv9
            have hH := held_any g1 w9 hW9
            clear hW9 hR9 hA9 hY9a hY9b hC9 x0 x1 x2 hS9
            go_wp2_with fail
            refine hH.mono ?_
            rintro e w' ⟨rfl, rfl⟩
            clear hH
            go_wp2_with fail
            refine wp_region_held (S := fun w' => Chg [] w9 w') (by kernel_rfl) ?_
            (try (change wpAnyH _ _ _ _ _ _ _ _ (World.drew _)))
            have hHeld : Chg [] w9 (World.drew w9) := (Chg.refl _ _).drew
            refine wpAnyH_take (i := 0) (v := ?_) rfl (by kernel_rfl) (by kernel_rfl) (by kernel_rfl) (fun _ _ _ h => h) (Or.inl ⟨by kernel_rfl, ?_⟩) (by exact hHeld) ?_
            rotate_left
            · (intro w hSw; clear hSw; go_simp; try with_reducible rfl)
            change wpAnyH _ _ _ _ _ _ _ (Act.put _ (some 106) _) _
            (try simp only [Act.put, List.setIfInBounds_toArray, List.set_cons_zero, List.set_cons_succ])
            refine wpAnyH_take (i := 3) (v := ?_) rfl (by kernel_rfl) (by kernel_rfl) (by kernel_rfl) (fun _ _ _ h => h) (Or.inl ⟨by kernel_rfl, ?_⟩) (by exact hHeld) ?_
            rotate_left
            · (intro w hSw; clear hSw; go_simp; try with_reducible rfl)
            change wpAnyH _ _ _ _ _ _ _ (Act.put _ (some 109) _) _
            (try simp only [Act.put, List.setIfInBounds_toArray, List.set_cons_zero, List.set_cons_succ])
            refine wpAnyH_take (i := 4) (v := ?_) rfl (by kernel_rfl) (by kernel_rfl) (by kernel_rfl) (fun _ _ _ h => h) (Or.inl ⟨by kernel_rfl, ?_⟩) (by exact hHeld) ?_
            rotate_left
            · (intro w hSw; clear hSw; go_simp; try with_reducible rfl)
            change wpAnyH _ _ _ _ _ _ _ (Act.put _ (some 110) _) _
            (try simp only [Act.put, List.setIfInBounds_toArray, List.set_cons_zero, List.set_cons_succ])
            refine wpAnyH_take (i := 5) (v := ?_) rfl (by kernel_rfl) (by kernel_rfl) (by kernel_rfl) (fun _ _ _ h => h) (Or.inl ⟨by kernel_rfl, ?_⟩) (by exact hHeld) ?_
            rotate_left
            · (intro w hSw; clear hSw; go_simp; try with_reducible rfl)
            change wpAnyH _ _ _ _ _ _ _ (Act.put _ (some 111) _) _
            (try simp only [Act.put, List.setIfInBounds_toArray, List.set_cons_zero, List.set_cons_succ])
            refine wpAnyH_take (i := 6) (v := ?_) rfl (by kernel_rfl) (by kernel_rfl) (by kernel_rfl) (fun _ _ _ h => h) (Or.inl ⟨by kernel_rfl, ?_⟩) (by exact hHeld) ?_
            rotate_left
            · (intro w hSw; have hq := y1.out w hSw; clear hSw; go_simp; try with_reducible rfl)
            change wpAnyH _ _ _ _ _ _ _ (Act.put _ (some 112) _) _
            (try simp only [Act.put, List.setIfInBounds_toArray, List.set_cons_zero, List.set_cons_succ])
            refine wpAnyH_take (i := 7) (v := ?_) rfl (by kernel_rfl) (by kernel_rfl) (by kernel_rfl) (fun _ _ _ h => h) (Or.inl ⟨by kernel_rfl, ?_⟩) (by exact hHeld) ?_
            rotate_left
            · (intro w hSw; have hq := hv9.out w hSw; clear hSw; go_simp; try with_reducible rfl)
            change wpAnyH _ _ _ _ _ _ _ (Act.put _ (some 113) _) _
            (try simp only [Act.put, List.setIfInBounds_toArray, List.set_cons_zero, List.set_cons_succ])
            refine wpAnyH_all (rs := [1]) (by kernel_rfl) (by simp) ?_
            refine AllReadyH.cons rfl (fun K hK => ?_) ?_
            · go_simp
              go_wp2_with (first
                  | (go_at_call_of 12 (Value.pointer (some ⟨g1, 0, none⟩)); refine (hcb.out _ (by exact hHeld)).mono ?_; rintro e w8 ⟨A8, c8, rfl, hs8, -, hC8⟩)
                  | (go_at_call_of 13 (Value.pointer (some ⟨g1, 0, none⟩)); refine (hct.out _ (by exact hHeld)).mono ?_; rintro e w' ⟨rfl, rfl⟩))
              refine hK.out _ _ (by first | exact hHeld | exact Chg.trans hHeld (by assumption)) (fun hHeld => ?_)
              clear hK K
              (try simp only [Act.put, List.setIfInBounds_toArray, List.set_cons_zero, List.set_cons_succ])
              refine wpAnyH_all (rs := [2]) (by kernel_rfl) (by simp) ?_
              refine AllReadyH.cons rfl (fun K hK => ?_) ?_
              · go_simp
                refine hK.out _ _ (by first | exact hHeld | exact Chg.trans hHeld (by assumption)) (fun hHeld => ?_)
                clear hK K
                (try simp only [Act.put, List.setIfInBounds_toArray, List.set_cons_zero, List.set_cons_succ])
                refine wpAnyH_take (i := 8) (v := ?_) rfl (by kernel_rfl) (by kernel_rfl) (by kernel_rfl) (fun _ _ _ h => h) (Or.inl ⟨by kernel_rfl, ?_⟩) (by exact hHeld) ?_
                rotate_left
                · (intro w hSw; clear hSw; go_simp; try with_reducible rfl)
                change wpAnyH _ _ _ _ _ _ _ (Act.put _ (some 114) _) _
                (try simp only [Act.put, List.setIfInBounds_toArray, List.set_cons_zero, List.set_cons_succ])
                refine wpAnyH_take (i := 9) (v := ?_) rfl (by kernel_rfl) (by kernel_rfl) (by kernel_rfl) (fun _ _ _ h => h) (Or.inl ⟨by kernel_rfl, ?_⟩) (by exact hHeld) ?_
                rotate_left
                · (intro w hSw; clear hSw; go_simp; try with_reducible rfl)
                change wpAnyH _ _ _ _ _ _ _ (Act.put _ (some 115) _) _
                (try simp only [Act.put, List.setIfInBounds_toArray, List.set_cons_zero, List.set_cons_succ])
                refine wpAnyH_take (i := 10) (v := ?_) rfl (by kernel_rfl) (by kernel_rfl) (by kernel_rfl) (fun _ _ _ h => h) (Or.inl ⟨by kernel_rfl, ?_⟩) (by exact hHeld) ?_
                rotate_left
                · (intro w hSw; clear hSw; go_simp; try with_reducible rfl)
                change wpAnyH _ _ _ _ _ _ _ (Act.put _ (some 116) _) _
                (try simp only [Act.put, List.setIfInBounds_toArray, List.set_cons_zero, List.set_cons_succ])
                refine wpAnyH_take (i := 12) (v := ?_) rfl (by kernel_rfl) (by kernel_rfl) (by kernel_rfl) (fun _ _ _ h => h) (Or.inl ⟨by kernel_rfl, ?_⟩) (by exact hHeld) ?_
                rotate_left
                · (intro w hSw; clear hSw; go_simp; try with_reducible rfl)
                change wpAnyH _ _ _ _ _ _ _ (Act.put _ (some 118) _) _
                (try simp only [Act.put, List.setIfInBounds_toArray, List.set_cons_zero, List.set_cons_succ])
                refine wpAnyH_take (i := 13) (v := ?_) rfl (by kernel_rfl) (by kernel_rfl) (by kernel_rfl) (fun _ _ _ h => h) (Or.inl ⟨by kernel_rfl, ?_⟩) (by exact hHeld) ?_
                rotate_left
                · (intro w hSw; clear hSw; go_simp; try with_reducible rfl)
                change wpAnyH _ _ _ _ _ _ _ (Act.put _ (some 119) _) _
                (try simp only [Act.put, List.setIfInBounds_toArray, List.set_cons_zero, List.set_cons_succ])
                refine wpAnyH_take (i := 14) (v := ?_) rfl (by kernel_rfl) (by kernel_rfl) (by kernel_rfl) (fun _ _ _ h => h) (Or.inl ⟨by kernel_rfl, ?_⟩) (by exact hHeld) ?_
                rotate_left
                · (intro w hSw; clear hSw; go_simp; try with_reducible rfl)
                change wpAnyH _ _ _ _ _ _ _ (Act.put _ (some 120) _) _
                (try simp only [Act.put, List.setIfInBounds_toArray, List.set_cons_zero, List.set_cons_succ])
                refine wpAnyH_take (i := 15) (v := ?_) rfl (by kernel_rfl) (by kernel_rfl) (by kernel_rfl) (fun _ _ _ h => h) (Or.inl ⟨by kernel_rfl, ?_⟩) (by exact hHeld) ?_
                rotate_left
                · (intro w hSw; have hq := y2.out w hSw; clear hSw; go_simp; try with_reducible rfl)
                change wpAnyH _ _ _ _ _ _ _ (Act.put _ (some 121) _) _
                (try simp only [Act.put, List.setIfInBounds_toArray, List.set_cons_zero, List.set_cons_succ])
                refine wpAnyH_all (rs := [11]) (by kernel_rfl) (by simp) ?_
                refine AllReadyH.cons rfl (fun K hK => ?_) ?_
                · go_simp
                  go_wp2_with (first
                      | (go_at_call_of 12 (Value.pointer (some ⟨g1, 0, none⟩)); refine (hcb.out _ (by exact hHeld)).mono ?_; rintro e w8 ⟨A8, c8, rfl, hs8, -, hC8⟩)
                      | (go_at_call_of 13 (Value.pointer (some ⟨g1, 0, none⟩)); refine (hct.out _ (by exact hHeld)).mono ?_; rintro e w' ⟨rfl, rfl⟩))
                  refine hK.out _ _ (by first | exact hHeld | exact Chg.trans hHeld (by assumption)) (fun hHeld => ?_)
                  clear hK K
                  (try simp only [Act.put, List.setIfInBounds_toArray, List.set_cons_zero, List.set_cons_succ])
                  refine wpAnyH_take (i := 16) (v := ?_) rfl (by kernel_rfl) (by kernel_rfl) (by kernel_rfl) (fun _ _ _ h => h) (Or.inl ⟨by kernel_rfl, ?_⟩) (by exact hHeld) ?_
                  rotate_left
                  · (intro w hSw; clear hSw; go_simp; try with_reducible rfl)
                  change wpAnyH _ _ _ _ _ _ _ (Act.put _ (some 122) _) _
                  (try simp only [Act.put, List.setIfInBounds_toArray, List.set_cons_zero, List.set_cons_succ])
                  refine wpAnyH_take (i := 17) (v := ?_) rfl (by kernel_rfl) (by kernel_rfl) (by kernel_rfl) (fun _ _ _ h => h) (Or.inl ⟨by kernel_rfl, ?_⟩) (by exact hHeld) ?_
                  rotate_left
                  · (intro w hSw; clear hSw; go_simp; try with_reducible rfl)
                  change wpAnyH _ _ _ _ _ _ _ (Act.put _ (some 123) _) _
                  (try simp only [Act.put, List.setIfInBounds_toArray, List.set_cons_zero, List.set_cons_succ])
                  refine wpAnyH_take (i := 18) (v := ?_) rfl (by kernel_rfl) (by kernel_rfl) (by kernel_rfl) (fun _ _ _ h => h) (Or.inl ⟨by kernel_rfl, ?_⟩) (by exact hHeld) ?_
                  rotate_left
                  · (intro w hSw; clear hSw; go_simp; try with_reducible rfl)
                  change wpAnyH _ _ _ _ _ _ _ (Act.put _ (some 124) _) _
                  (try simp only [Act.put, List.setIfInBounds_toArray, List.set_cons_zero, List.set_cons_succ])
                  refine wpAnyH_take (i := 19) (v := ?_) rfl (by kernel_rfl) (by kernel_rfl) (by kernel_rfl) (fun _ _ _ h => h) (Or.inl ⟨by kernel_rfl, ?_⟩) (by exact hHeld) ?_
                  rotate_left
                  · (intro w hSw; clear hSw; go_simp; try with_reducible rfl)
                  change wpAnyH _ _ _ _ _ _ _ (Act.put _ (some 125) _) _
                  (try simp only [Act.put, List.setIfInBounds_toArray, List.set_cons_zero, List.set_cons_succ])
                  refine wpAnyH_take (i := 20) (v := ?_) rfl (by kernel_rfl) (by kernel_rfl) (by kernel_rfl) (fun _ _ _ h => h) (Or.inl ⟨by kernel_rfl, ?_⟩) (by exact hHeld) ?_
                  rotate_left
                  · (intro w hSw; clear hSw; go_simp; try with_reducible rfl)
                  change wpAnyH _ _ _ _ _ _ _ (Act.put _ (some 126) _) _
                  (try simp only [Act.put, List.setIfInBounds_toArray, List.set_cons_zero, List.set_cons_succ])
                  refine wpAnyH_take (i := 21) (v := ?_) rfl (by kernel_rfl) (by kernel_rfl) (by kernel_rfl) (fun _ _ _ h => h) (Or.inl ⟨by kernel_rfl, ?_⟩) (by exact hHeld) ?_
                  rotate_left
                  · (intro w hSw; clear hSw; go_simp; try with_reducible rfl)
                  change wpAnyH _ _ _ _ _ _ _ (Act.put _ (some 127) _) _
                  (try simp only [Act.put, List.setIfInBounds_toArray, List.set_cons_zero, List.set_cons_succ])
                  refine wpAnyH_take (i := 22) (v := ?_) rfl (by kernel_rfl) (by kernel_rfl) (by kernel_rfl) (fun _ _ _ h => h) (Or.inl ⟨by kernel_rfl, ?_⟩) (by exact hHeld) ?_
                  rotate_left
                  · (intro w hSw; clear hSw; go_simp; try with_reducible rfl)
                  change wpAnyH _ _ _ _ _ _ _ (Act.put _ (some 128) _) _
                  (try simp only [Act.put, List.setIfInBounds_toArray, List.set_cons_zero, List.set_cons_succ])
                  refine wpAnyH_take (i := 23) (v := ?_) rfl (by kernel_rfl) (by kernel_rfl) (by kernel_rfl) (fun _ _ _ h => h) (Or.inl ⟨by kernel_rfl, ?_⟩) (by exact hHeld) ?_
                  rotate_left
                  · (intro w hSw; have hq := y1.out w hSw; clear hSw; go_simp; try with_reducible rfl)
                  change wpAnyH _ _ _ _ _ _ _ (Act.put _ (some 129) _) _
                  (try simp only [Act.put, List.setIfInBounds_toArray, List.set_cons_zero, List.set_cons_succ])
                  refine wpAnyH_take (i := 24) (v := ?_) rfl (by kernel_rfl) (by kernel_rfl) (by kernel_rfl) (fun _ _ _ h => h) (Or.inl ⟨by kernel_rfl, ?_⟩) (by exact hHeld) ?_
                  rotate_left
                  · (intro w hSw; clear hSw; go_simp; try with_reducible rfl)
                  change wpAnyH _ _ _ _ _ _ _ (Act.put _ (some 130) _) _
                  (try simp only [Act.put, List.setIfInBounds_toArray, List.set_cons_zero, List.set_cons_succ])
                  refine wpAnyH_take (i := 25) (v := ?_) rfl (by kernel_rfl) (by kernel_rfl) (by kernel_rfl) (fun _ _ _ h => h) (Or.inl ⟨by kernel_rfl, ?_⟩) (by exact hHeld) ?_
                  rotate_left
                  · (intro w hSw; clear hSw; go_simp; try with_reducible rfl)
                  change wpAnyH _ _ _ _ _ _ _ (Act.put _ (some 131) _) _
                  (try simp only [Act.put, List.setIfInBounds_toArray, List.set_cons_zero, List.set_cons_succ])
                  refine wpAnyH_take (i := 26) (v := ?_) rfl (by kernel_rfl) (by kernel_rfl) (by kernel_rfl) (fun _ _ _ h => h) (Or.inl ⟨by kernel_rfl, ?_⟩) (by exact hHeld) ?_
                  rotate_left
                  · (intro w hSw; clear hSw; go_simp; try with_reducible rfl)
                  change wpAnyH _ _ _ _ _ _ _ (Act.put _ (some 132) _) _
                  (try simp only [Act.put, List.setIfInBounds_toArray, List.set_cons_zero, List.set_cons_succ])
                  refine wpAnyH_take (i := 27) (v := ?_) rfl (by kernel_rfl) (by kernel_rfl) (by kernel_rfl) (fun _ _ _ h => h) (Or.inl ⟨by kernel_rfl, ?_⟩) (by exact hHeld) ?_
                  rotate_left
                  · (intro w hSw; clear hSw; go_simp; try with_reducible rfl)
                  change wpAnyH _ _ _ _ _ _ _ (Act.put _ (some 133) _) _
                  (try simp only [Act.put, List.setIfInBounds_toArray, List.set_cons_zero, List.set_cons_succ])
                  refine wpAnyH_take (i := 28) (v := ?_) rfl (by kernel_rfl) (by kernel_rfl) (by kernel_rfl) (fun _ _ _ h => h) (Or.inl ⟨by kernel_rfl, ?_⟩) (by exact hHeld) ?_
                  rotate_left
                  · (intro w hSw; clear hSw; go_simp; try with_reducible rfl)
                  change wpAnyH _ _ _ _ _ _ _ (Act.put _ (some 134) _) _
                  (try simp only [Act.put, List.setIfInBounds_toArray, List.set_cons_zero, List.set_cons_succ])
                  refine wpAnyH_take (i := 29) (v := ?_) rfl (by kernel_rfl) (by kernel_rfl) (by kernel_rfl) (fun _ _ _ h => h) (Or.inl ⟨by kernel_rfl, ?_⟩) (by exact hHeld) ?_
                  rotate_left
                  · (intro w hSw; clear hSw; go_simp; try with_reducible rfl)
                  change wpAnyH _ _ _ _ _ _ _ (Act.put _ (some 135) _) _
                  (try simp only [Act.put, List.setIfInBounds_toArray, List.set_cons_zero, List.set_cons_succ])
                  refine wpAnyH_take (i := 30) (v := ?_) rfl (by kernel_rfl) (by kernel_rfl) (by kernel_rfl) (fun _ _ _ h => h) (Or.inl ⟨by kernel_rfl, ?_⟩) (by exact hHeld) ?_
                  rotate_left
                  · (intro w hSw; clear hSw; go_simp; try with_reducible rfl)
                  change wpAnyH _ _ _ _ _ _ _ (Act.put _ (some 136) _) _
                  (try simp only [Act.put, List.setIfInBounds_toArray, List.set_cons_zero, List.set_cons_succ])
                  refine wpAnyH_take (i := 31) (v := ?_) rfl (by kernel_rfl) (by kernel_rfl) (by kernel_rfl) (fun _ _ _ h => h) (Or.inl ⟨by kernel_rfl, ?_⟩) (by exact hHeld) ?_
                  rotate_left
                  · (intro w hSw; clear hSw; go_simp; try with_reducible rfl)
                  change wpAnyH _ _ _ _ _ _ _ (Act.put _ (some 137) _) _
                  (try simp only [Act.put, List.setIfInBounds_toArray, List.set_cons_zero, List.set_cons_succ])
                  refine wpAnyH_take (i := 32) (v := ?_) rfl (by kernel_rfl) (by kernel_rfl) (by kernel_rfl) (fun _ _ _ h => h) (Or.inl ⟨by kernel_rfl, ?_⟩) (by exact hHeld) ?_
                  rotate_left
                  · (intro w hSw; clear hSw; go_simp; try with_reducible rfl)
                  change wpAnyH _ _ _ _ _ _ _ (Act.put _ (some 138) _) _
                  (try simp only [Act.put, List.setIfInBounds_toArray, List.set_cons_zero, List.set_cons_succ])
                  refine wpAnyH_done (by kernel_rfl) ?_ _
                  (try simp only [Act.put, List.setIfInBounds_toArray, List.set_cons_zero, List.set_cons_succ])
                  have B10 := B9.out.alloc hHeld
                  clear hHeld
                  go_wp2
                  go_roundg (n - (k + 1))
                  case measure => omega
                  case rel => exact ⟨k + 1, r9, q9, t9, h9, bs9, m9, tp9, by omega, rfl, by go_num, rfl, B10, hm9, htp9, by omega⟩
                exact AllReadyH.nil
              exact AllReadyH.nil
            exact AllReadyH.nil
        · obtain rfl : k = n := by omega
          go_wp2
          go_ret
          exact ⟨rfl, B.C.below⟩
theorem windowActs_row (v0 : Value) (d0 : Dt) (v1 : Value) (d1 : Dt) (w : World) (h0 : Reads w (.int .i64) v0 d0) (h1 : Reads w (.sl [.int .i64, .int .i64, .sl [.int .u8]]) v1 d1) :
    Calls Try.prog 7 #[v0, v1] w fun e w' => e = .returned (.bool true) ∧ Below w.heap.size w w' := by
  obtain ⟨mo, rfl, -, -⟩ := i64_of h0
  obtain ⟨A, n, c, rfl, h⟩ := acts_of h1
  exact windowActs_walk mo A n c w h
end Go.Proofs.Ytjfbbobaghdocaa
