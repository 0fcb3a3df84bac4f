/- The law PlanArms, walked. No condition. -/
import Derived.Test.YtakcolililbkjaaPlAlive
import Derived.Test.YtakcolililbkjaaPlArmsK
import Derived.Test.YtakcolililbkjaaArQ
import Derived.Test.YtakcolililbkjaaTclU8
import Derived.Deep.LoopGhost
import Derived.Deep.CutBlock
import Derived.IntWalk
import Derived.Deep.DeepCutAuto
set_option linter.unusedVariables false
set_option linter.unusedSimpArgs false
namespace Go.Proofs.Ytakcolililbkjaa
namespace Ar
open Go.RowKit Tcl Plan Pl
theorem strs_of_reads {w : World} {v : Value} {d : Dt} (h : Reads w (.sl [.str]) v d) : ∃ A c, ∃ ss : List ByteArray, v = .slice A ss.length c ∧ Sl w 1 v ss.length (ss.map Value.string) ∧ ss.length ≤ c ∧ c ≤ maxLen ∧ ∀ s ∈ ss, s.size ≤ maxLen := by
  cases h with
  | @sl fs A n c rows u h0 h1 h2 hl hw hc hr =>
    have key : ∀ i, i < n → ∃ b : ByteArray, u i 0 = .string b ∧ b.size ≤ maxLen := fun i hi => by
      obtain ⟨row, hr1, hr2⟩ := hw i hi
      match row, hr2 with
      | [d0], _ =>
        have := hr i 0 _ _ d0 hr1 rfl rfl
        generalize u i 0 = x at this
        cases this with
        | str h => exact ⟨_, rfl, h⟩
    obtain ⟨bs, hb1, hb2⟩ := exists_rows n (fun i (b : ByteArray) => u i 0 = .string b ∧ b.size ≤ maxLen) key
    subst hb1
    refine ⟨A, c, bs, rfl, ⟨A, c, rfl, h0, h1, h2, by simp, fun hx => ?_⟩, h1, h2, fun s hs => ?_⟩
    · obtain ⟨a, ha, _⟩ := hc 0 0 (by simpa using hx) (by simp)
      refine ⟨a, ha, fun j x hj => ?_⟩
      have hjl : j < bs.length := by have := (List.getElem?_eq_some_iff.1 hj).1; simpa using this
      obtain ⟨a', ha', hc'⟩ := hc j 0 hjl (by simp)
      rw [ha] at ha'; cases ha'
      have := (hb2 j _ (List.getElem?_eq_getElem hjl)).1
      simp only [List.length_cons, List.length_nil, Nat.zero_add, Nat.mul_one, Nat.add_zero] at hc'
      rw [hc', this]
      simp only [List.getElem?_map, List.getElem?_eq_getElem hjl, Option.map_some] at hj
      exact hj
    · obtain ⟨j, hj, rfl⟩ := List.mem_iff_getElem.1 hs
      exact (hb2 j _ (List.getElem?_eq_getElem hj)).2
theorem and3s : ∀ x : Fin 256, bits .and .u8 (x.val : Int) 3 = ((x.val % 4 : Nat) : Int) := by decide +kernel
theorem and3 (k : UInt8) : bits .and .u8 (k.toNat : Int) 3 = ((k.toNat % 4 : Nat) : Int) := and3s ⟨k.toNat, k.toNat_lt⟩
theorem and4s : ∀ x : Fin 256, bits .and .u8 (x.val : Int) 4 = if 4 ≤ x.val % 8 then 4 else 0 := by decide +kernel
theorem and4 (k : UInt8) : bits .and .u8 (k.toNat : Int) 4 = if 4 ≤ k.toNat % 8 then 4 else 0 := and4s ⟨k.toNat, k.toNat_lt⟩
@[go_sem] theorem idx0 (a b c d : Value) (w : World) : (Instr.index 25 (.agg #[a, b, c, d]) (.int .u8 0)).run Try.prog w = .ok a w := by kernel_rfl
@[go_sem] theorem idx1 (a b c d : Value) (w : World) : (Instr.index 25 (.agg #[a, b, c, d]) (.int .u8 1)).run Try.prog w = .ok b w := by kernel_rfl
@[go_sem] theorem idx2 (a b c d : Value) (w : World) : (Instr.index 25 (.agg #[a, b, c, d]) (.int .u8 2)).run Try.prog w = .ok c w := by kernel_rfl
@[go_sem] theorem idx3 (a b c d : Value) (w : World) : (Instr.index 25 (.agg #[a, b, c, d]) (.int .u8 3)).run Try.prog w = .ok d w := by kernel_rfl
theorem openT_cat (a k : Nat) (ps : List Part) : openT ⟨a, k, ps⟩ = cat ps := rfl
theorem want_len (k : UInt8) (s : Option (List UInt8)) : (want (arOf k s)).length ≤ 20 := by
  unfold want arOf
  split
  · cases s with
    | none => show 1 ≤ 20; omega
    | some u => show (u.take 20).length ≤ 20; rw [List.length_take]; omega
  · exact Nat.zero_le _
/-- What a pattern in the list is. -/
abbrev lst (ss : List ByteArray) : List (List UInt8) := ss.map (fun s => s.data.toList)
set_option maxRecDepth 100000 in
set_option maxHeartbeats 16000000 in
theorem arms_walk (Ak : Option Addr) (ck : Nat) (ks0 : List UInt8) (Ap : Option Addr) (cp : Nat) (ss : List ByteArray) (w : World)
    (hk1 : ks0.length ≤ ck) (hk2 : ck ≤ maxLen) (hk3 : ∀ j x, ks0[j]? = some x → ∃ b o, Ak = some ⟨b, o, none⟩ ∧ w.cell? ⟨b, o + j, none⟩ = some (.int .u8 x.toNat))
    (hp1 : ss.length ≤ cp) (hp2 : cp ≤ maxLen) (hp3 : ∀ j x, ss[j]? = some x → x.size ≤ maxLen ∧ ∃ b o, Ap = some ⟨b, o, none⟩ ∧ w.cell? ⟨b, o + j, none⟩ = some (.string x)) :
    Calls Try.prog 3 #[.slice Ak ks0.length ck, .slice Ap ss.length cp] w fun e w' => e = .returned (.bool true) ∧ Below w.heap.size w w' := by
  unfold maxLen at hk2 hp2
  obtain ⟨N, hN⟩ : ∃ N, ks0.length = N := ⟨_, rfl⟩
  obtain ⟨M, hM⟩ : ∃ M, ss.length = M := ⟨_, rfl⟩
  rw [hN] at hk1 ⊢
  rw [hM] at hp1 ⊢
  obtain ⟨n, hn⟩ : ∃ n, min N 60 = n := ⟨_, rfl⟩
  have hn60 : n ≤ 60 := by omega
  have hnN : n ≤ N := by omega
  obtain ⟨ks, hks⟩ : ∃ ks, ks0.take n = ks := ⟨_, rfl⟩
  have hkl : ks.length = n := by rw [← hks, List.length_take]; omega
  have hkg : ∀ j x, ks[j]? = some x → ∃ b o, Ak = some ⟨b, o, none⟩ ∧ w.cell? ⟨b, o + j, none⟩ = some (.int .u8 x.toNat) := fun j x h => hk3 j x (by
    rw [← hks, List.getElem?_take] at h
    split at h
    · exact h
    · cases h)
  obtain ⟨T, hT⟩ : ∃ T, toksS (arsT (arsL ks (lst ss))) = T := ⟨_, rfl⟩
  replace hkl := Lib.hid hkl
  replace hkg := Lib.hid hkg
  replace hp3 := Lib.hid hp3
  replace hT := Lib.hid hT
  replace hM := Lib.hid hM
  clear hk3 hks
  go_enter Try.func3, Try.ntmps3
  go_upto_region 2 with fail
  go_cut [24, 25, 26] (fun v24 v25 v26 wx => v24 = .slice Ak n ck ∧ v25 = .int .i64 n ∧ v26 = .int .i64 0 ∧ w = wx)
  case first =>
    by_cases h60 : N ≤ 60
    · obtain rfl : n = N := by omega
      clear hn
      go_wp2_with fail
      go_meet
      exact ⟨rfl, rfl, rfl, rfl⟩
    · obtain rfl : n = 60 := by omega
      clear hn
      go_wp2_with fail
      go_meet
      exact ⟨rfl, rfl, rfl, rfl⟩
  case rest =>
  obtain ⟨rfl, rfl, rfl, rfl⟩ := hcut
  clear hn
  go_upto_block 0 with (fail)
  go_wp2
  go_loopg [5, 6, 26] n (fun gk v5 v6 v26 wr => ∃ (j : Nat) (X : List UInt8) (Z : ByteArray), v5 = .string Z ∧ v6 = .int .i64 j ∧ v26 = .int .i64 j ∧ j ≤ n ∧ gk = n - j ∧ Hid (Z = bstr X) ∧ X.length ≤ 110 * j + 8 ∧ Hid ([101, 120, 112, 101, 99, 116, 32, 123] ++ T = X ++ toksS (arsT (arsL (ks.drop j) ((lst ss).drop j)))) ∧ Hid (Chg [] w wr))
  case atStart => exact ⟨0, [101, 120, 112, 101, 99, 116, 32, 123], _, rfl, rfl, rfl, by omega, by omega, Lib.hid rfl, by show 8 ≤ _; omega, Lib.hid (by rw [← hT.out]; rfl), Lib.hid (Chg.refl _ _)⟩
  case round =>
    obtain ⟨j, X, Z, rfl, rfl, rfl, hj, rfl, hZ, hX, hR, hC⟩ := hrel
    by_cases hlj : j < n
    · obtain ⟨k, hk⟩ : ∃ k, ks[j]? = some k := ⟨_, List.getElem?_eq_getElem (by have := hkl.out; omega)⟩
      obtain ⟨b, o, rfl, hcell⟩ := hkg.out j k hk
      replace hcell := hC.out.cell hcell (by simp)
      have hstep := hR.out
      rw [arsL_step hk, toksS_arm, ← List.append_assoc] at hstep
      replace hstep := Lib.hid hstep
      obtain ⟨P, hP⟩ : ∃ P, (patT (arOf k (lst ss)[j]?).p).t = P := ⟨_, rfl⟩
      go_upto_if 34 with fail
      go_cut [9] (fun v9 wx => ∃ Y, v9 = .string Y ∧ Hid (Y = bstr P) ∧ Y.size ≤ 82 ∧ Hid (Chg [] wr wx))
      case first =>
        clear hstep hR hZ hX hcell hT
        by_cases hjm : j < M
        · obtain ⟨x, hx⟩ : ∃ x, ss[j]? = some x := ⟨_, List.getElem?_eq_getElem (by have := hM.out; omega)⟩
          obtain ⟨hxs, b2, o2, rfl, hc2⟩ := hp3.out j x hx
          replace hc2 := hC.out.cell hc2 (by simp)
          have hc9 := Lib.hid (fun W (h : Chg [] wr W) => h.cell hc2 (by simp))
          have hP2 : quoteQ (x.data.toList.take 20) = P := by
            rw [← hP, show (lst ss)[j]? = some x.data.toList by rw [List.getElem?_map, hx]; rfl]; rfl
          have hPl : P.length ≤ 82 := by rw [← hP]; exact patT_len (fun u hu => by
            unfold arOf at hu
            simp only [Option.map_eq_some_iff] at hu
            obtain ⟨y, -, rfl⟩ := hu
            rw [List.length_take]; omega)
          unfold maxLen at hxs
          clear hP
          replace hP2 := Lib.hid hP2
          obtain ⟨m, hm⟩ : ∃ m, min 20 x.size = m := ⟨_, rfl⟩
          have hif : Hid ((if (20 : Int) < (x.size : Int) then (20 : Int) else (x.size : Int)) = (m : Int)) := Lib.hid (by split <;> omega)
          have hm1 : m ≤ x.size := by omega
          have hm2 : m ≤ 20 := by omega
          obtain ⟨y, hy⟩ : ∃ y, x.extract 0 m = y := ⟨_, rfl⟩
          have hq := Lib.hid (fun c W => quote_str y (by rw [← hy, ByteArray.size_extract]; omega) c W)
          have hPx : quoteQ y.data.toList = P := by
            rw [← hP2.out, ← hy]
            congr 1
            rw [ByteArray.data_extract, Array.toList_extract, List.extract_eq_take_drop, List.drop_zero]
            by_cases h20 : x.size ≤ 20
            · have hl : x.data.toList.length = x.size := by rw [Array.length_toList]; rfl
              rw [List.take_of_length_le (by omega), List.take_of_length_le (by omega)]
            · rw [show m = 20 by omega]
          rw [hPx] at hq
          clear hPx hP2 hm
          go_wp2_with fail
          refine wp_region_held (S := fun w' => Chg [] wr w') (by kernel_rfl) ?_
          (try (change wpAnyH _ _ _ _ _ _ _ _ (World.drew _)))
          have hHeld : Chg [] wr (World.drew wr) := (Chg.refl _ _).drew
          refine wpAnyH_take (i := 0) (v := ?_) rfl (by kernel_rfl) (by kernel_rfl) (by kernel_rfl) (fun _ _ _ h => h) (Or.inl ⟨by kernel_rfl, ?_⟩) (by exact hHeld) ?_
          rotate_left
          · (intro w hSw; clear hSw; go_simp; try with_reducible rfl)
          change wpAnyH _ _ _ _ _ _ _ (Act.put _ (some 35) _) _
          (try simp only [Act.put, List.setIfInBounds_toArray, List.set_cons_zero, List.set_cons_succ])
          refine wpAnyH_take (i := 1) (v := ?_) rfl (by kernel_rfl) (by kernel_rfl) (by kernel_rfl) (fun _ _ _ h => h) (Or.inl ⟨by kernel_rfl, ?_⟩) (by exact hHeld) ?_
          rotate_left
          · (intro w hSw; clear hSw; go_simp; try with_reducible rfl)
          change wpAnyH _ _ _ _ _ _ _ (Act.put _ (some 36) _) _
          (try simp only [Act.put, List.setIfInBounds_toArray, List.set_cons_zero, List.set_cons_succ])
          refine wpAnyH_take (i := 2) (v := ?_) rfl (by kernel_rfl) (by kernel_rfl) (by kernel_rfl) (fun _ _ _ h => h) (Or.inl ⟨by kernel_rfl, ?_⟩) (by exact hHeld) ?_
          rotate_left
          · (intro w hSw; have hq := hc9.out w hSw; clear hSw; (try obtain ⟨hq, hq2, hq3⟩ := hq); go_simp; try with_reducible rfl)
          change wpAnyH _ _ _ _ _ _ _ (Act.put _ (some 37) _) _
          (try simp only [Act.put, List.setIfInBounds_toArray, List.set_cons_zero, List.set_cons_succ])
          refine wpAnyH_take (i := 3) (v := ?_) rfl (by kernel_rfl) (by kernel_rfl) (by kernel_rfl) (fun _ _ _ h => h) (Or.inl ⟨by kernel_rfl, ?_⟩) (by exact hHeld) ?_
          rotate_left
          · (intro w hSw; have hq := hc9.out w hSw; clear hSw; (try obtain ⟨hq, hq2, hq3⟩ := hq); go_simp; try with_reducible rfl)
          change wpAnyH _ _ _ _ _ _ _ (Act.put _ (some 38) _) _
          (try simp only [Act.put, List.setIfInBounds_toArray, List.set_cons_zero, List.set_cons_succ])
          refine wpAnyH_take (i := 4) (v := ?_) rfl (by kernel_rfl) (by kernel_rfl) (by kernel_rfl) (fun _ _ _ h => h) (Or.inl ⟨by kernel_rfl, ?_⟩) (by exact hHeld) ?_
          rotate_left
          · (intro w hSw; clear hSw; go_simp; try with_reducible rfl)
          change wpAnyH _ _ _ _ _ _ _ (Act.put _ (some 39) _) _
          (try simp only [Act.put, List.setIfInBounds_toArray, List.set_cons_zero, List.set_cons_succ])
          refine wpAnyH_take (i := 5) (v := ?_) rfl (by kernel_rfl) (by kernel_rfl) (by kernel_rfl) (fun _ _ _ h => h) (Or.inl ⟨by kernel_rfl, ?_⟩) (by exact hHeld) ?_
          rotate_left
          · (intro w hSw; clear hSw; go_simp; try with_reducible rfl)
          change wpAnyH _ _ _ _ _ _ _ (Act.put _ (some 40) _) _
          (try simp only [Act.put, List.setIfInBounds_toArray, List.set_cons_zero, List.set_cons_succ])
          refine wpAnyH_take (i := 6) (v := ?_) rfl (by kernel_rfl) (by kernel_rfl) (by kernel_rfl) (fun _ _ _ h => h) (Or.inl ⟨by kernel_rfl, ?_⟩) (by exact hHeld) ?_
          rotate_left
          · (intro w hSw; have hq := hc9.out w hSw; clear hSw; (try obtain ⟨hq, hq2, hq3⟩ := hq); go_simp; try with_reducible rfl)
          change wpAnyH _ _ _ _ _ _ _ (Act.put _ (some 41) _) _
          (try simp only [Act.put, List.setIfInBounds_toArray, List.set_cons_zero, List.set_cons_succ])
          refine wpAnyH_take (i := 7) (v := ?_) rfl (by kernel_rfl) (by kernel_rfl) (by kernel_rfl) (fun _ _ _ h => h) (Or.inl ⟨by kernel_rfl, ?_⟩) (by exact hHeld) ?_
          rotate_left
          · (intro w hSw; have hq := hc9.out w hSw; clear hSw; (try obtain ⟨hq, hq2, hq3⟩ := hq); go_simp; try with_reducible rfl)
          change wpAnyH _ _ _ _ _ _ _ (Act.put _ (some 42) _) _
          (try simp only [Act.put, List.setIfInBounds_toArray, List.set_cons_zero, List.set_cons_succ])
          refine wpAnyH_take (i := 8) (v := ?_) rfl (by kernel_rfl) (by kernel_rfl) (by kernel_rfl) (fun _ _ _ h => h) (Or.inl ⟨by kernel_rfl, ?_⟩) (by exact hHeld) ?_
          rotate_left
          · (intro w hSw; clear hSw; go_simp; try with_reducible rfl)
          change wpAnyH _ _ _ _ _ _ _ (Act.put _ (some 43) _) _
          (try simp only [Act.put, List.setIfInBounds_toArray, List.set_cons_zero, List.set_cons_succ])
          refine wpAnyH_take (i := 9) (v := ?_) rfl (by kernel_rfl) (by kernel_rfl) (by kernel_rfl) (fun _ _ _ h => h) (Or.inl ⟨by kernel_rfl, ?_⟩) (by exact hHeld) ?_
          rotate_left
          · (intro w hSw; clear hSw; go_simp; try with_reducible rfl)
          change wpAnyH _ _ _ _ _ _ _ (Act.put _ (some 44) _) _
          (try simp only [Act.put, List.setIfInBounds_toArray, List.set_cons_zero, List.set_cons_succ])
          rw [hif.out]
          refine wpAnyH_take (i := 10) (v := ?_) rfl (by kernel_rfl) (by kernel_rfl) (by kernel_rfl) (fun _ _ _ h => h) (Or.inl ⟨by kernel_rfl, ?_⟩) (by exact hHeld) ?_
          rotate_left
          · (intro w hSw; clear hSw; go_simp; try with_reducible rfl)
          change wpAnyH _ _ _ _ _ _ _ (Act.put _ (some 45) _) _
          (try simp only [Act.put, List.setIfInBounds_toArray, List.set_cons_zero, List.set_cons_succ])
          (try rw [hy])
          refine wpAnyH_all (rs := [11]) (by kernel_rfl) (by simp) ?_
          refine AllReadyH.cons rfl (fun K hK => ?_) ?_
          · (go_simp; have hH0 := hHeld; refine hK.out _ _ (hHeld.trans (bytesWorld_chg _ _ _)) (fun hHeld => ?_); clear hK K)
            (try simp only [Act.put, List.setIfInBounds_toArray, List.set_cons_zero, List.set_cons_succ])
            refine wpAnyH_all (rs := [12]) (by kernel_rfl) (by simp) ?_
            refine AllReadyH.cons rfl (fun K hK => ?_) ?_
            · go_simp
              go_wp2_with (first
                  | (refine (hq.out _ _).mono ?_; rintro e wq ⟨rfl, hCq⟩; have hHeld := hH0.trans hCq))
              refine hK.out _ _ (by first | exact hHeld | exact Chg.trans hHeld (by assumption) | exact Chg.alloc hHeld _ | exact Chg.alloc hH9 _ | exact (Chg.setCell hHeld (.inr hge) _).setCell (.inr hge) _ | exact (Chg.setCell hHeld (.inl (by simp)) _).setCell (.inl (by simp)) _) (fun hHeld => ?_)
              clear hK K
              (try simp only [Act.put, List.setIfInBounds_toArray, List.set_cons_zero, List.set_cons_succ])
              refine wpAnyH_take (i := 13) (v := ?_) rfl (by kernel_rfl) (by kernel_rfl) (by kernel_rfl) (fun _ _ _ h => h) (Or.inl ⟨by kernel_rfl, ?_⟩) (by exact hHeld) ?_
              rotate_left
              · (intro w hSw; clear hSw; go_simp; try with_reducible rfl)
              change wpAnyH _ _ _ _ _ _ _ (Act.put _ (some 9) _) _
              (try simp only [Act.put, List.setIfInBounds_toArray, List.set_cons_zero, List.set_cons_succ])
              refine wpAnyH_done (by kernel_rfl) ?_ _
              (try simp only [Act.put, List.setIfInBounds_toArray, List.set_cons_zero, List.set_cons_succ])
              go_wp2_with fail
              go_meet
              exact ⟨_, rfl, Lib.hid rfl, by rw [bstr_size]; exact hPl, Lib.hid hHeld⟩
            exact AllReadyH.nil
          exact AllReadyH.nil
        · have hP2 : P = [120] := by
            rw [← hP, show (lst ss)[j]? = none by rw [List.getElem?_map, List.getElem?_eq_none (by have := hM.out; omega)]; rfl]; rfl
          go_wp2_with fail
          go_meet
          exact ⟨_, rfl, Lib.hid (by rw [hP2]; rfl), by decide, Lib.hid (Chg.refl _ _)⟩
      case rest =>
      obtain ⟨Y, rfl, hY, hYs, hC9⟩ := hcut
      replace hC := Lib.hid (hC.out.trans hC9.out)
      replace hcell := hC9.out.cell hcell (by simp)
      clear hC9
      have e3 := and3 k
      have e4 := and4 k
      obtain ⟨a, ha⟩ : ∃ a, k.toNat % 4 = a := ⟨_, rfl⟩
      have ha4 : a < 4 := by omega
      obtain ⟨b4, hb4⟩ : ∃ b4, decide (4 ≤ k.toNat % 8) = b4 := ⟨_, rfl⟩
      have hpl := arm_len k (lst ss)[j]?
      have har : (arOf k (lst ss)[j]?).k = a := ha
      have hab : (arOf k (lst ss)[j]?).b = b4 := hb4
      rw [har, hab, hP] at hpl
      have hst := hstep.out
      rw [har, hab, hP] at hst
      replace hst := Lib.hid hst
      clear hstep hR har hab hP
      rw [ha] at e3
      have hZl : Z.size = X.length := by rw [hZ.out]; rfl
      replace hpl := Lib.hid hpl
      go_upto_region 8 with fail
      go_cut [5] (fun v5 wx => ∃ Y, v5 = .string Y ∧ Hid (Y = bstr (X ++ ([32] ++ headS a P))) ∧ Y.size ≤ 110 * j + 200 ∧ Hid (Chg [] wc wx))
      case first =>
        obtain rfl | rfl | rfl | rfl : a = 0 ∨ a = 1 ∨ a = 2 ∨ a = 3 := by omega
        all_goals
          clear hst hpl hkg hp3 hC
          go_wp2_with fail
          go_meet
          refine ⟨_, rfl, Lib.hid ?_, ?_, Lib.hid (by first | exact Chg.refl _ _ | exact (Chg.refl _ _).drewN _)⟩
          · rw [hZ.out]
            try rw [hY.out]
            refine bstr_of ?_
            simp [app_list, bstr, headS]
          · simp only [ByteArray.size_append]
            show _ + (1 + _) ≤ _
            first | omega | (show _ + (1 + (_ + _)) ≤ _; omega) | (show _ + (1 + 7) ≤ _; omega) | (show _ + (1 + 3) ≤ _; omega) | (show _ + (1 + (7 + _)) ≤ _; omega) | (show _ + (1 + (6 + _)) ≤ _; omega)
      case rest =>
      obtain ⟨Y5, rfl, hY5, hYs5, hC5⟩ := hcut
      replace hC := Lib.hid (hC.out.trans hC5.out)
      clear hC5 hcell hZ hZl hY hYs e3 ha
      cases b4 with
      | true =>
        rw [if_pos (of_decide_eq_true hb4)] at e4
        clear hb4
        go_wp2_with fail
        go_roundg (n - (j + 1))
        case measure => omega
        case rel => exact ⟨j + 1, X ++ (([32] ++ headS a P) ++ tailS true), _, rfl, by go_num, by go_num, by omega, rfl, Lib.hid (by rw [hY5.out]; refine bstr_of ?_; rw [app_list]; simp [bstr, tailS]), by rw [List.length_append]; have := hpl.out; omega, hst, hC⟩
      | false =>
        rw [if_neg (of_decide_eq_false hb4)] at e4
        clear hb4
        go_wp2_with fail
        go_roundg (n - (j + 1))
        case measure => omega
        case rel => exact ⟨j + 1, X ++ (([32] ++ headS a P) ++ tailS false), _, rfl, by go_num, by go_num, by omega, rfl, Lib.hid (by rw [hY5.out]; simp [tailS]), by rw [List.length_append]; have := hpl.out; omega, hst, hC⟩
    · obtain rfl : j = n := by omega
      have hkd : ks.drop j = [] := List.drop_eq_nil_of_le (by have := hkl.out; omega)
      have hR2 := hR.out
      rw [hkd] at hR2
      have hX2 : X = [101, 120, 112, 101, 99, 116, 32, 123] ++ T := by rw [hR2]; show X = X ++ []; rw [List.append_nil]
      have hZ2 : Z ++ (⟨#[125]⟩ : ByteArray) = bstr (expS T) := by rw [hZ.out, hX2]; refine bstr_of ?_; rw [app_list]; simp [bstr, expS]
      have hZl : Z.size = X.length := by rw [hZ.out]; rfl
      have hTl : T.length ≤ 6600 := by have h1 := arsL_text ks (lst ss); have h2 := hkl.out; rw [hT.out] at h1; omega
      obtain ⟨Bu, hBu⟩ : ∃ B, bstr (expS T) = B := ⟨_, rfl⟩
      rw [hBu] at hZ2
      have p1 := Lib.hid (fun W => hBu ▸ plan_any W (expS T) (by unfold expS; simp; omega))
      clear hBu hR hR2 hX2 hZ hkd
      by_cases hn0 : j = 0
      · have hp : planOf (expS T) = .error (0, 2) := by
          have h1 : ks = [] := List.length_eq_zero_iff.1 (by have := hkl.out; omega)
          rw [← hT.out, h1]; exact exp_none
        subst hn0
        clear hT hTl hkg hp3
        replace hp := Lib.hid hp
        go_wp2_with fail
        refine (p1.out _).mono ?_
        rintro e w1 h1
        obtain ⟨hC1, -, rfl⟩ := pl_bad h1 hp.out
        replace hC := Lib.hid (hC.out.trans hC1)
        clear h1 hC1
        go_wp2_with fail
        refine (alive_any _).mono ?_
        rintro e wz ⟨rfl, hCz⟩
        have hCf := Lib.hid (hC.out.trans hCz)
        clear hCz
        go_wp2_with fail
        go_ret
        exact ⟨rfl, hCf.out.below⟩
      obtain ⟨ms, hp, hml, hmg⟩ := exp_arms (l := arsL ks (lst ss)) (fun h => hn0 (by have h1 := arsL_len ks (lst ss); rw [h, List.length_nil] at h1; have := hkl.out; omega)) (arsL_kinds _ _) (by rw [arsL_len]; have := hkl.out; omega) (by rw [hT.out]; omega)
      rw [hT.out] at hp
      rw [arsL_len, hkl.out] at hml
      have hn0' : ((j : Int) == 0) = false := by simp; omega
      replace hp := Lib.hid hp
      replace hmg := Lib.hid hmg
      clear hT
      go_wp2_with fail
      refine (p1.out _).mono ?_
      rintro e w1 h1
      obtain ⟨hC1, A1, c1, rfl, hO1⟩ := pl_ok h1 hp.out
      replace hC := Lib.hid (hC.out.trans hC1)
      obtain ⟨b0, o0, Aw, cw, Aa, ca, rfl, q0, q1, q2, q3, zs, hS, hA⟩ := ops_at (i := 0) hO1 rfl rfl
      simp only [Op.kind, Op.at_, Op.arms, Op.words, List.length_cons, List.length_nil, Nat.zero_mul, Nat.add_zero, Nat.zero_add, hml] at q0 q1 q2 q3 hS hA ⊢
      have hgw := Lib.hid (fun W (hc : Chg [] w1 W) => (⟨hS.chg hc (fun _ _ _ => by simp), armsC.chg hc (fun _ _ _ => by simp) _ _ hA⟩ : Sl W 5 (.slice Aa j ca) j zs ∧ armsC W _ zs ms))
      clear h1 hC1 hO1 hS hA q0 q1 q2 p1 hp
      have hbe : ((j : Int) != (j : Int)) = false := by simp
      go_wp2_with fail
      go_loopg [107] j (fun gk v107 wr => ∃ i : Nat, v107 = .int .i64 i ∧ i ≤ j ∧ gk = j - i ∧ Hid (Chg [] w1 wr) ∧ Hid (Chg [] w wr))
      case atStart => exact ⟨0, rfl, by omega, rfl, Lib.hid (Chg.refl _ _), hC⟩
      case round =>
        obtain ⟨i, rfl, hi, rfl, hCa, hCb⟩ := hrel
        clear q3
        by_cases hlt : i < j
        · obtain ⟨k, hk⟩ : ∃ k, ks[i]? = some k := ⟨_, List.getElem?_eq_getElem (by have := hkl.out; omega)⟩
          obtain ⟨b, o, rfl, hcell⟩ := hkg.out i k hk
          replace hcell := hCb.out.cell hcell (by simp)
          obtain ⟨m, hm, hmk, hmb, hmo⟩ := hmg.out i _ (arsL_get ks (lst ss) i k hk)
          obtain ⟨kS, kA⟩ := hgw.out _ hCa.out
          obtain ⟨b1, o1, Apt, cpt, Ab, cb, rfl, u0, u1, u2, u3, u4, hP, hOp⟩ := arms_at kS kA hml.symm hm
          have e3 := and3 k
          have e4 := and4 k
          have hwl := want_len k (lst ss)[i]?
          obtain ⟨a, ha⟩ : ∃ a, k.toNat % 4 = a := ⟨_, rfl⟩
          have ha4 : a < 4 := by omega
          obtain ⟨b4, hb4⟩ : ∃ b4, decide (4 ≤ k.toNat % 8) = b4 := ⟨_, rfl⟩
          have hmk2 : m.kind = a := hmk.trans ha
          rw [hmk2] at u0
          rw [ha] at e3
          have hab : (arOf k (lst ss)[i]?).b = b4 := hb4
          rw [hab] at hmb
          obtain ⟨W, hW⟩ : ∃ W, want (arOf k (lst ss)[i]?) = W := ⟨_, rfl⟩
          rw [hW] at hmo hwl
          have hW2 : W = if a < 2 then (match (lst ss)[i]? with | none => [120] | some u => u.take 20) else [] := by
            rw [← hW, ← ha]
            unfold want arOf
            cases (lst ss)[i]? <;> rfl
          obtain ⟨ps, hps⟩ : ∃ ps, m.pat.parts = ps := ⟨_, rfl⟩
          have hcat : cat ps = W := by rw [← hmo, ← hps]; rfl
          rw [hps] at u3 hP
          obtain ⟨np, hnp⟩ : ∃ n, ps.length = n := ⟨_, rfl⟩
          rw [hnp] at u3
          obtain ⟨bd, hbd⟩ : ∃ bd, m.body = bd := ⟨_, rfl⟩
          rw [hbd] at u4 hOp hmb
          obtain ⟨nb, hnb⟩ : ∃ n, List.length bd = n := ⟨_, rfl⟩
          rw [hnb] at u4 hOp
          obtain ⟨y1, hy1⟩ : ∃ k, m.pat.at_ = k := ⟨_, rfl⟩
          obtain ⟨y2, hy2⟩ : ∃ k, m.pat.kind = k := ⟨_, rfl⟩
          rw [hy1] at u1
          rw [hy2] at u2
          have hnp9 : np ≤ 9223372036854775807 := by
            obtain ⟨A0, c0, e, j0, j1, j2, -⟩ := hP
            simp only [Value.slice.injEq] at e
            obtain ⟨-, -, rfl⟩ := e
            unfold maxLen at j2; omega
          have hal := (Chg.refl [] wr).alloc (.cells #[.int .i64 a, .int .i64 y1, .int .i64 y2, .slice Apt np cpt, .slice Ab nb cb] 40)
          have hblk := blk_new wr (.cells #[.int .i64 a, .int .i64 y1, .int .i64 y2, .slice Apt np cpt, .slice Ab nb cb] 40)
          obtain ⟨g, hg⟩ : ∃ g, wr.heap.size = g := ⟨_, rfl⟩
          rw [hg] at hblk
          have hcellp : ∀ (k : Nat) (p : Part), ps[k]? = some p → ∃ b o, Apt = some ⟨b, o, none⟩ ∧ wr.cell? ⟨b, o + k * 2, none⟩ = some (.bool p.var) ∧ wr.cell? ⟨b, o + k * 2 + 1, none⟩ = some (.string (bstr p.s)) := fun k p hk => by
            have hkl := (List.getElem?_eq_some_iff.1 hk).1
            obtain ⟨b, o, h1, h2⟩ := parts_at (hnp ▸ hP) (by omega)
            have h3 := h2 k p hk
            rw [← Nat.add_assoc] at h3
            exact ⟨b, o, h1, h3⟩
          have htot := Lib.hid (cat_take_le ps)
          have hcell2 := hal.cell hcell (by simp)
          replace hal := Lib.hid hal
          replace hblk := Lib.hid hblk
          replace hcellp := Lib.hid hcellp
          replace hOp := Lib.hid hOp
          replace hmb := Lib.hid hmb
          replace hW2 := Lib.hid hW2
          replace hcat := Lib.hid hcat
          replace hnp := Lib.hid hnp
          replace hnb := Lib.hid hnb
          clear hP kS kA hm hmk hmo hW hps hy1 hy2 hab hbd hmk2
          go_upto_region 22 with fail
          (try rw [hg])
          generalize wr.alloc _ = w3 at hal hblk ⊢
          have x0 : w3.cell? ⟨g, 0, none⟩ = some (.int .i64 a) := by simp [World.cell?, hblk.out]
          have x3 : w3.cell? ⟨g, 3, none⟩ = some (.slice Apt np cpt) := by simp [World.cell?, hblk.out]
          have x4 : w3.cell? ⟨g, 4, none⟩ = some (.slice Ab nb cb) := by simp [World.cell?, hblk.out]
          clear u0 u1 u2 u3 u4 hcell hcell2
          go_cut [145] (fun v145 wx => v145 = .bool false ∧ w3 = wx)
          case first =>
            cases b4 with
            | true =>
              rw [if_pos (of_decide_eq_true hb4)] at e4
              obtain ⟨o2, o3, hbd, hk7⟩ := hmb.out
              have hnb2 := hnb.out
              rw [hbd] at hnb2
              subst hnb2
              obtain ⟨b3, o4, Aw2, cw2, Aa2, ca2, rfl, f0, -⟩ := ops_at (i := 1) (OpsV.chg hOp.out hal.out (fun _ _ _ => by simp)) (by rw [hbd]) (by rw [hbd]; rfl)
              rw [hk7] at f0
              simp only [List.length_cons, List.length_nil] at x4
              go_wp2_with fail
              go_meet
              exact ⟨rfl, rfl⟩
            | false =>
              rw [if_neg (of_decide_eq_false hb4)] at e4
              have hbd : bd = [] := hmb.out
              have hnb2 := hnb.out
              rw [hbd] at hnb2
              subst hnb2
              simp only [List.length_nil] at x4
              go_wp2_with fail
              go_meet
              exact ⟨rfl, rfl⟩
          case rest =>
          obtain ⟨rfl, rfl⟩ := hcut
          clear x0 x4 e4 hb4 hOp hmb hnb
          replace hCa := Lib.hid (hCa.out.trans hal.out)
          replace hCb := Lib.hid (hCb.out.trans hal.out)
          go_wp2_with fail
          go_loopg [16, 150] np (fun gk v16 v150 wr => ∃ (k : Nat) (Z : ByteArray), v16 = .string Z ∧ v150 = .int .i64 k ∧ k ≤ np ∧ gk = np - k ∧ Hid (Z = bstr (cat (ps.take k))) ∧ Hid (Chg [] w3 wr))
          case atStart => exact ⟨0, _, rfl, rfl, by omega, rfl, Lib.hid rfl, Lib.hid (Chg.refl _ _)⟩
          case round =>
            obtain ⟨k', Z, rfl, rfl, hk', rfl, hZ, hC2⟩ := hrel
            clear x3
            by_cases hlp : k' < np
            · obtain ⟨p, hpk⟩ : ∃ p, ps[k']? = some p := ⟨_, List.getElem?_eq_getElem (by have := hnp.out; omega)⟩
              obtain ⟨b7, o7, rfl, x0, x1⟩ := hcellp.out k' p hpk
              replace x0 := (hal.out.trans hC2.out).cell x0 (by simp)
              replace x1 := (hal.out.trans hC2.out).cell x1 (by simp)
              have hsu := cat_succ hpk
              have htk := htot.out (k' + 1)
              rw [hsu, List.length_append] at htk
              have hol' := congrArg List.length hcat.out
              obtain ⟨Y, hY⟩ : ∃ Y, bstr p.s = Y := ⟨_, rfl⟩
              rw [hY] at x1
              have hYs : Y.size = p.s.length := by rw [← hY]; rfl
              have hZs : Z.size = (cat (ps.take k')).length := by rw [hZ.out]; rfl
              have hcc : ¬ (9223372036854775807 < Z.size + Y.size) := by omega
              have hZ2 : Hid (Z ++ Y = bstr (cat (ps.take (k' + 1)))) := Lib.hid (by
                rw [hsu, ← hY, hZ.out]
                apply ByteArray.ext
                apply Array.ext'
                simp [bstr])
              clear hsu htk hYs hZs hY hpk hZ hol'
              obtain ⟨v, hv⟩ : ∃ v, p.var = v := ⟨_, rfl⟩
              rw [hv] at x0
              clear hv
              have hC3 := Lib.hid (hC2.out.alloc (.cells #[.bool v, .string Y] 42))
              go_wp2_with fail
              go_roundg (np - (k' + 1))
              case measure => omega
              case rel => exact ⟨k' + 1, _, rfl, rfl, by omega, rfl, hZ2, hC3⟩
            · obtain rfl : k' = np := by omega
              have hZ2 := hZ.out
              rw [List.take_of_length_le (by have := hnp.out; omega), hcat.out] at hZ2
              obtain ⟨Y, hY⟩ : ∃ Y, bstr W = Y := ⟨_, rfl⟩
              rw [hY] at hZ2
              subst hZ2
              replace hY := Lib.hid hY
              replace hCa := Lib.hid (hCa.out.trans hC2.out)
              replace hCb := Lib.hid (hCb.out.trans hC2.out)
              clear hZ hcat htot hcellp hnp hblk hal hC2
              go_upto_if 161 with fail
              go_cut [19] (fun v19 wx => v19 = .string Z ∧ Hid (Chg [] wr wx))
              case first =>
                by_cases ha2 : a < 2
                · have hd : decide ((a : Int) < 2) = true := by simp; omega
                  have hWa := hW2.out
                  rw [if_pos ha2] at hWa
                  by_cases him : i < M
                  · obtain ⟨x, hx⟩ : ∃ x, ss[i]? = some x := ⟨_, List.getElem?_eq_getElem (by have := hM.out; omega)⟩
                    obtain ⟨hxs, b2, o2, rfl, hc2⟩ := hp3.out i x hx
                    replace hc2 := hCb.out.cell hc2 (by simp)
                    have hc9 := Lib.hid (fun W (h : Chg [] wr W) => h.cell hc2 (by simp))
                    rw [show (lst ss)[i]? = some x.data.toList by rw [List.getElem?_map, hx]; rfl] at hWa
                    unfold maxLen at hxs
                    obtain ⟨m, hm⟩ : ∃ m, min 20 x.size = m := ⟨_, rfl⟩
                    have hif : Hid ((if (20 : Int) < (x.size : Int) then (20 : Int) else (x.size : Int)) = (m : Int)) := Lib.hid (by split <;> omega)
                    have hm1 : m ≤ x.size := by omega
                    have hy : x.extract 0 m = Z := by
                      rw [← hY.out, hWa]
                      refine bstr_of ?_
                      rw [ByteArray.data_extract, Array.toList_extract, List.extract_eq_take_drop, List.drop_zero]
                      show x.data.toList.take m = x.data.toList.take 20
                      by_cases h20 : x.size ≤ 20
                      · have hl : x.data.toList.length = x.size := by rw [Array.length_toList]; rfl
                        rw [List.take_of_length_le (by omega), List.take_of_length_le (by omega)]
                      · rw [show m = 20 by omega]
                    clear hm hWa
                    go_wp2_with fail
                    refine wp_region_held (S := fun w' => Chg [] wr w') (by kernel_rfl) ?_
                    (try (change wpAnyH _ _ _ _ _ _ _ _ (World.drew _)))
                    have hHeld : Chg [] wr (World.drew wr) := (Chg.refl _ _).drew
                    refine wpAnyH_take (i := 0) (v := ?_) rfl (by kernel_rfl) (by kernel_rfl) (by kernel_rfl) (fun _ _ _ h => h) (Or.inl ⟨by kernel_rfl, ?_⟩) (by exact hHeld) ?_
                    rotate_left
                    · (intro w hSw; clear hSw; go_simp; try with_reducible rfl)
                    change wpAnyH _ _ _ _ _ _ _ (Act.put _ (some 166) _) _
                    (try simp only [Act.put, List.setIfInBounds_toArray, List.set_cons_zero, List.set_cons_succ])
                    refine wpAnyH_take (i := 1) (v := ?_) rfl (by kernel_rfl) (by kernel_rfl) (by kernel_rfl) (fun _ _ _ h => h) (Or.inl ⟨by kernel_rfl, ?_⟩) (by exact hHeld) ?_
                    rotate_left
                    · (intro w hSw; clear hSw; go_simp; try with_reducible rfl)
                    change wpAnyH _ _ _ _ _ _ _ (Act.put _ (some 167) _) _
                    (try simp only [Act.put, List.setIfInBounds_toArray, List.set_cons_zero, List.set_cons_succ])
                    refine wpAnyH_take (i := 2) (v := ?_) rfl (by kernel_rfl) (by kernel_rfl) (by kernel_rfl) (fun _ _ _ h => h) (Or.inl ⟨by kernel_rfl, ?_⟩) (by exact hHeld) ?_
                    rotate_left
                    · (intro w hSw; have hq := hc9.out w hSw; clear hSw; (try obtain ⟨hq, hq2, hq3⟩ := hq); go_simp; try with_reducible rfl)
                    change wpAnyH _ _ _ _ _ _ _ (Act.put _ (some 168) _) _
                    (try simp only [Act.put, List.setIfInBounds_toArray, List.set_cons_zero, List.set_cons_succ])
                    refine wpAnyH_take (i := 3) (v := ?_) rfl (by kernel_rfl) (by kernel_rfl) (by kernel_rfl) (fun _ _ _ h => h) (Or.inl ⟨by kernel_rfl, ?_⟩) (by exact hHeld) ?_
                    rotate_left
                    · (intro w hSw; have hq := hc9.out w hSw; clear hSw; (try obtain ⟨hq, hq2, hq3⟩ := hq); go_simp; try with_reducible rfl)
                    change wpAnyH _ _ _ _ _ _ _ (Act.put _ (some 169) _) _
                    (try simp only [Act.put, List.setIfInBounds_toArray, List.set_cons_zero, List.set_cons_succ])
                    refine wpAnyH_take (i := 4) (v := ?_) rfl (by kernel_rfl) (by kernel_rfl) (by kernel_rfl) (fun _ _ _ h => h) (Or.inl ⟨by kernel_rfl, ?_⟩) (by exact hHeld) ?_
                    rotate_left
                    · (intro w hSw; clear hSw; go_simp; try with_reducible rfl)
                    change wpAnyH _ _ _ _ _ _ _ (Act.put _ (some 170) _) _
                    (try simp only [Act.put, List.setIfInBounds_toArray, List.set_cons_zero, List.set_cons_succ])
                    refine wpAnyH_take (i := 5) (v := ?_) rfl (by kernel_rfl) (by kernel_rfl) (by kernel_rfl) (fun _ _ _ h => h) (Or.inl ⟨by kernel_rfl, ?_⟩) (by exact hHeld) ?_
                    rotate_left
                    · (intro w hSw; clear hSw; go_simp; try with_reducible rfl)
                    change wpAnyH _ _ _ _ _ _ _ (Act.put _ (some 171) _) _
                    (try simp only [Act.put, List.setIfInBounds_toArray, List.set_cons_zero, List.set_cons_succ])
                    refine wpAnyH_take (i := 6) (v := ?_) rfl (by kernel_rfl) (by kernel_rfl) (by kernel_rfl) (fun _ _ _ h => h) (Or.inl ⟨by kernel_rfl, ?_⟩) (by exact hHeld) ?_
                    rotate_left
                    · (intro w hSw; have hq := hc9.out w hSw; clear hSw; (try obtain ⟨hq, hq2, hq3⟩ := hq); go_simp; try with_reducible rfl)
                    change wpAnyH _ _ _ _ _ _ _ (Act.put _ (some 172) _) _
                    (try simp only [Act.put, List.setIfInBounds_toArray, List.set_cons_zero, List.set_cons_succ])
                    refine wpAnyH_take (i := 7) (v := ?_) rfl (by kernel_rfl) (by kernel_rfl) (by kernel_rfl) (fun _ _ _ h => h) (Or.inl ⟨by kernel_rfl, ?_⟩) (by exact hHeld) ?_
                    rotate_left
                    · (intro w hSw; have hq := hc9.out w hSw; clear hSw; (try obtain ⟨hq, hq2, hq3⟩ := hq); go_simp; try with_reducible rfl)
                    change wpAnyH _ _ _ _ _ _ _ (Act.put _ (some 173) _) _
                    (try simp only [Act.put, List.setIfInBounds_toArray, List.set_cons_zero, List.set_cons_succ])
                    refine wpAnyH_take (i := 8) (v := ?_) rfl (by kernel_rfl) (by kernel_rfl) (by kernel_rfl) (fun _ _ _ h => h) (Or.inl ⟨by kernel_rfl, ?_⟩) (by exact hHeld) ?_
                    rotate_left
                    · (intro w hSw; clear hSw; go_simp; try with_reducible rfl)
                    change wpAnyH _ _ _ _ _ _ _ (Act.put _ (some 174) _) _
                    (try simp only [Act.put, List.setIfInBounds_toArray, List.set_cons_zero, List.set_cons_succ])
                    refine wpAnyH_take (i := 9) (v := ?_) rfl (by kernel_rfl) (by kernel_rfl) (by kernel_rfl) (fun _ _ _ h => h) (Or.inl ⟨by kernel_rfl, ?_⟩) (by exact hHeld) ?_
                    rotate_left
                    · (intro w hSw; clear hSw; go_simp; try with_reducible rfl)
                    change wpAnyH _ _ _ _ _ _ _ (Act.put _ (some 175) _) _
                    (try simp only [Act.put, List.setIfInBounds_toArray, List.set_cons_zero, List.set_cons_succ])
                    rw [hif.out]
                    refine wpAnyH_take (i := 10) (v := ?_) rfl (by kernel_rfl) (by kernel_rfl) (by kernel_rfl) (fun _ _ _ h => h) (Or.inl ⟨by kernel_rfl, ?_⟩) (by exact hHeld) ?_
                    rotate_left
                    · (intro w hSw; clear hSw; go_simp; try with_reducible rfl)
                    change wpAnyH _ _ _ _ _ _ _ (Act.put _ (some 176) _) _
                    (try simp only [Act.put, List.setIfInBounds_toArray, List.set_cons_zero, List.set_cons_succ])
                    (try rw [hy])
                    refine wpAnyH_take (i := 11) (v := ?_) rfl (by kernel_rfl) (by kernel_rfl) (by kernel_rfl) (fun _ _ _ h => h) (Or.inl ⟨by kernel_rfl, ?_⟩) (by exact hHeld) ?_
                    rotate_left
                    · (intro w hSw; clear hSw; go_simp; try with_reducible rfl)
                    change wpAnyH _ _ _ _ _ _ _ (Act.put _ (some 19) _) _
                    (try simp only [Act.put, List.setIfInBounds_toArray, List.set_cons_zero, List.set_cons_succ])
                    refine wpAnyH_done (by kernel_rfl) ?_ _
                    (try simp only [Act.put, List.setIfInBounds_toArray, List.set_cons_zero, List.set_cons_succ])
                    go_wp2_with fail
                    go_meet
                    exact ⟨rfl, Lib.hid hHeld⟩
                  · rw [show (lst ss)[i]? = none by rw [List.getElem?_map, List.getElem?_eq_none (by have := hM.out; omega)]; rfl] at hWa
                    have hy : (⟨#[120]⟩ : ByteArray) = Z := by rw [← hY.out, hWa]; rfl
                    go_wp2_with fail
                    go_meet
                    exact ⟨by first | rfl | rw [hy], Lib.hid (Chg.refl _ _)⟩
                · have hd : decide ((a : Int) < 2) = false := by simp; omega
                  have hy : (⟨#[]⟩ : ByteArray) = Z := by rw [← hY.out, hW2.out, if_neg ha2]; rfl
                  go_wp2_with fail
                  go_meet
                  exact ⟨by first | rfl | rw [hy], Lib.hid (Chg.refl _ _)⟩
              case rest =>
              obtain ⟨rfl, hC9⟩ := hcut
              replace hCa := Lib.hid (hCa.out.trans hC9.out)
              replace hCb := Lib.hid (hCb.out.trans hC9.out)
              have hs1 : (Z == Z) = true := ba_beq _
              have hs2 : (Z != Z) = false := by unfold bne; rw [hs1]; rfl
              clear hC9 hY hW2
              go_wp2_with fail
              go_roundg (j - (i + 1))
              case measure => omega
              case rel => exact ⟨i + 1, rfl, by omega, rfl, hCa, hCb⟩
        · obtain rfl : i = j := by omega
          go_wp2_with fail
          refine (alive_any _).mono ?_
          rintro e wz ⟨rfl, hCz⟩
          have hCf := Lib.hid (hCb.out.trans hCz)
          clear hCz
          go_wp2_with fail
          go_ret
          exact ⟨rfl, hCf.out.below⟩
theorem planArms_row (v0 : Value) (d0 : Dt) (v1 : Value) (d1 : Dt) (w : World) (h0 : Reads w (.sl [.int .u8]) v0 d0) (h1 : Reads w (.sl [.str]) v1 d1) :
    Calls Try.prog 3 #[v0, v1] w fun e w' => e = .returned (.bool true) ∧ Below w.heap.size w w' := by
  obtain ⟨Ak, ck, ks, rfl, hk, hk1, hk2⟩ := u8s_of_reads h0
  obtain ⟨Ap, cp, ss, rfl, hp, hp1, hp2, hp3⟩ := strs_of_reads h1
  refine arms_walk Ak ck ks Ap cp ss w hk1 hk2 (fun j x hx => ?_) hp1 hp2 (fun j x hx => ⟨hp3 x (List.mem_of_getElem? hx), ?_⟩)
  · have hj := (List.getElem?_eq_some_iff.1 hx).1
    obtain ⟨b, o, h1, h2⟩ := sl_row hk (by simp [u8s]; omega)
    exact ⟨b, o, h1, h2 j _ (by simp [u8s, hx])⟩
  · have hj := (List.getElem?_eq_some_iff.1 hx).1
    obtain ⟨b, o, h1, h2⟩ := sl_row hp (by simp; omega)
    exact ⟨b, o, h1, h2 j _ (by simp [hx])⟩
end Ar
end Go.Proofs.Ytakcolililbkjaa
