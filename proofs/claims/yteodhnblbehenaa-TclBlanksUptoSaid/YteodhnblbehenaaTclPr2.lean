/- Contract of package tcl's text. Conditions: as it states. -/
import Derived.Test.YteodhnblbehenaaTclPr1
import Derived.StillTailTactics
set_option linter.unusedVariables false
set_option linter.unusedSimpArgs false
namespace Go.Proofs.Yteodhnblbehenaa
open Go.RowKit Tcl
theorem esc_o (bare bh : Bool) (c : UInt8) : escB bare bh c = if (!plainB c || (bare && c == 32) || (bh && nameB c)) then octB c else [c] := by
  unfold escB
  cases plainB c <;> cases (bare && c == 32) <;> cases (bh && nameB c) <;> rfl
set_option maxRecDepth 100000 in
set_option maxHeartbeats 8000000 in
theorem text_any (w0 w : World) (g : Nat) (bs s : List UInt8) (bare behind : Bool) (h : Bd w0 w g bs) (hlen : bs.length + 4 * s.length ≤ 70368744177000) :
    Calls Try.prog 50 #[.pointer (some ⟨g, 0, none⟩), .string (bstr s), .bool bare, .bool behind] w fun e w' => e = .returned (.tuple #[]) ∧ Bd w0 w' g (bs ++ textB bare behind s) ∧ Kept g w w' := by
  have hsz : (bstr s).size = s.length := rfl
  obtain ⟨B, hB⟩ : ∃ B, bstr s = B := ⟨_, rfl⟩
  have hby : ∀ i (h : i < B.size), s[i]? = some (B[i]'h) := by rw [← hB]; exact fun i h => byte_of h
  rw [hB] at hsz ⊢
  replace hby := Lib.hid hby
  replace h := Lib.hid h
  clear hB
  go_enter Try.func50, Try.ntmps50
  go_wp2_with fail
  go_loopg [12] s.length (fun gk v12 wr => ∃ (i : Nat) (X : List UInt8), v12 = .int .i64 i ∧ i ≤ s.length ∧ gk = s.length - i ∧ X.length ≤ 4 * i ∧ Hid (textB bare behind s = X ++ textB bare (behind && decide (i = 0)) (s.drop i)) ∧ Hid (Bd w0 wr g (bs ++ X)) ∧ Hid (Kept g w wr))
  case atStart => exact ⟨0, [], rfl, by omega, by omega, by simp, Lib.hid (by simp), Lib.hid (by rw [List.append_nil]; exact h.out), Lib.hid (Kept.refl _ _)⟩
  case round =>
    obtain ⟨i, X, rfl, hi, rfl, hX, hT, hBd, hK⟩ := hrel
    clear h
    by_cases hlt : i < s.length
    · have hlB : i < B.size := by omega
      obtain ⟨c, hc⟩ : ∃ c, B[i]'hlB = c := ⟨_, rfl⟩
      have hsc : s[i]? = some c := by rw [hby.out i hlB, hc]
      obtain ⟨bh, hbh⟩ : ∃ bh, (behind && decide (i = 0)) = bh := ⟨_, rfl⟩
      have hstep : textB bare bh (s.drop i) = escB bare bh c ++ textB bare false (s.drop (i + 1)) := by
        obtain ⟨hl, he⟩ := List.getElem?_eq_some_iff.1 hsc
        rw [List.drop_eq_getElem_cons hl, he, textB]
      rw [hbh] at hT
      have hT2 := hT.out
      rw [hstep, esc_o] at hT2
      obtain ⟨o, ho⟩ : ∃ o, (!plainB c || (bare && c == 32) || (bh && nameB c)) = o := ⟨_, rfl⟩
      rw [ho] at hT2
      replace hT2 := Lib.hid hT2
      replace ho := Lib.hid ho
      replace hbh := Lib.hid hbh
      have hw32 : wrap32 (c.toNat : Int) = c.toNat := by have := c.toNat_lt; unfold wrap32; omega
      clear hstep hT
      go_upto_region 4 with fail
      go_cut [39] (fun v39 wx => v39 = .bool o ∧ wx = wr)
      case first =>
        clear hT2 hBd hK hX
        cases hp : plainB c with
        | false =>
          have hpl := Lib.hid (fun w => plain_any c false hp w)
          obtain rfl : o = true := by rw [← ho.out, hp]; simp
          clear ho hbh
          go_wp2_with fail
          refine (hpl.out _).mono ?_
          rintro e w' ⟨rfl, rfl⟩
          go_wp2_with fail
          go_meet
          exact ⟨rfl, rfl⟩
        | true =>
          have hpl := Lib.hid (fun w => plain_any c true hp w)
          cases bare with
          | false =>
            cases behind with
            | false =>
              obtain rfl : o = false := by rw [← ho.out, hp, ← hbh.out]; simp
              clear ho hbh
              go_wp2_with fail
              refine (hpl.out _).mono ?_
              rintro e w' ⟨rfl, rfl⟩
              go_wp2_with fail
              go_meet
              exact ⟨rfl, rfl⟩
            | true =>
              by_cases hi0 : i = 0
              · subst hi0
                cases hn : nameB c with
                | false =>
                  obtain rfl : o = false := by rw [← ho.out, hp, ← hbh.out, hn]; simp
                  have hnm := Lib.hid (fun w => names_any c.toNat (by have := c.toNat_lt; omega) w)
                  rw [nameR_byte, hn] at hnm
                  clear ho hbh
                  go_wp2_with fail
                  refine (hpl.out _).mono ?_
                  rintro e w' ⟨rfl, rfl⟩
                  go_wp2_with fail
                  refine (hnm.out _).mono ?_
                  rintro e w' ⟨rfl, rfl⟩
                  go_wp2_with fail
                  go_meet
                  exact ⟨rfl, rfl⟩
                | true =>
                  obtain rfl : o = true := by rw [← ho.out, hp, ← hbh.out, hn]; simp
                  have hnm := Lib.hid (fun w => names_any c.toNat (by have := c.toNat_lt; omega) w)
                  rw [nameR_byte, hn] at hnm
                  clear ho hbh
                  go_wp2_with fail
                  refine (hpl.out _).mono ?_
                  rintro e w' ⟨rfl, rfl⟩
                  go_wp2_with fail
                  refine (hnm.out _).mono ?_
                  rintro e w' ⟨rfl, rfl⟩
                  go_wp2_with fail
                  go_meet
                  exact ⟨rfl, rfl⟩
              · have ei : ((i : Int) == 0) = false := by rw [beq_eq_false_iff_ne]; omega
                obtain rfl : o = false := by rw [← ho.out, hp, ← hbh.out]; simp [hi0]
                clear ho hbh
                go_wp2_with fail
                refine (hpl.out _).mono ?_
                rintro e w' ⟨rfl, rfl⟩
                go_wp2_with fail
                go_meet
                exact ⟨rfl, rfl⟩
          | true =>
            by_cases h32 : c = 32
            · subst h32
              obtain rfl : o = true := by rw [← ho.out, hp]; simp
              clear ho hbh
              go_wp2_with fail
              refine (hpl.out _).mono ?_
              rintro e w' ⟨rfl, rfl⟩
              go_wp2_with fail
              go_meet
              exact ⟨rfl, rfl⟩
            · have e32 : ((c.toNat : Int) == 32) = false := u8n (n := 32) h32
              cases behind with
              | false =>
                obtain rfl : o = false := by rw [← ho.out, hp, ← hbh.out]; simp [h32]
                clear ho hbh
                go_wp2_with fail
                refine (hpl.out _).mono ?_
                rintro e w' ⟨rfl, rfl⟩
                go_wp2_with fail
                go_meet
                exact ⟨rfl, rfl⟩
              | true =>
                by_cases hi0 : i = 0
                · subst hi0
                  cases hn : nameB c with
                  | false =>
                    obtain rfl : o = false := by rw [← ho.out, hp, ← hbh.out, hn]; simp [h32]
                    have hnm := Lib.hid (fun w => names_any c.toNat (by have := c.toNat_lt; omega) w)
                    rw [nameR_byte, hn] at hnm
                    clear ho hbh
                    go_wp2_with fail
                    refine (hpl.out _).mono ?_
                    rintro e w' ⟨rfl, rfl⟩
                    go_wp2_with fail
                    refine (hnm.out _).mono ?_
                    rintro e w' ⟨rfl, rfl⟩
                    go_wp2_with fail
                    go_meet
                    exact ⟨rfl, rfl⟩
                  | true =>
                    obtain rfl : o = true := by rw [← ho.out, hp, ← hbh.out, hn]; simp
                    have hnm := Lib.hid (fun w => names_any c.toNat (by have := c.toNat_lt; omega) w)
                    rw [nameR_byte, hn] at hnm
                    clear ho hbh
                    go_wp2_with fail
                    refine (hpl.out _).mono ?_
                    rintro e w' ⟨rfl, rfl⟩
                    go_wp2_with fail
                    refine (hnm.out _).mono ?_
                    rintro e w' ⟨rfl, rfl⟩
                    go_wp2_with fail
                    go_meet
                    exact ⟨rfl, rfl⟩
                · have ei : ((i : Int) == 0) = false := by rw [beq_eq_false_iff_ne]; omega
                  obtain rfl : o = false := by rw [← ho.out, hp, ← hbh.out]; simp [hi0, h32]
                  clear ho hbh
                  go_wp2_with fail
                  refine (hpl.out _).mono ?_
                  rintro e w' ⟨rfl, rfl⟩
                  go_wp2_with fail
                  go_meet
                  exact ⟨rfl, rfl⟩
      case rest =>
        obtain ⟨rfl, rfl⟩ := hcut
        have hrel : ∀ (Y : List UInt8) (wx : World), Y = (if o then octB c else [c]) → Bd w0 wx g ((bs ++ X) ++ Y) → Kept g wc wx → X.length + Y.length ≤ 4 * (i + 1) → (∃ (i' : Nat) (X' : List UInt8), ((i : Int) + 1) = (i' : Int) ∧ i' ≤ s.length ∧ s.length - (i + 1) = s.length - i' ∧ X'.length ≤ 4 * i' ∧ Hid (textB bare behind s = X' ++ textB bare (behind && decide (i' = 0)) (s.drop i')) ∧ Hid (Bd w0 wx g (bs ++ X')) ∧ Hid (Kept g w wx)) := fun Y wx hY hB2 hK2 hl => by
          refine ⟨i + 1, X ++ Y, by omega, by omega, rfl, by simpa using hl, Lib.hid ?_, Lib.hid (by rw [← List.append_assoc]; exact hB2), Lib.hid (hK.out.trans hK2)⟩
          rw [hT2.out, hY]
          have : (behind && decide (i + 1 = 0)) = false := by simp
          rw [this, List.append_assoc]
        replace hrel := Lib.hid hrel
        have hlX : (bs ++ X).length + 4 ≤ 70368744177664 := by rw [List.length_append]; omega
        cases o with
        | true =>
          have hoc := Lib.hid (fun w => octal_any c w)
          have hws := Lib.hid (fun W (h : Bd w0 W g (bs ++ X)) => writeString_bd w0 W g (bs ++ X) (octB c) h (by show _ + 4 ≤ _; exact hlX))
          go_upto_region 5 with fail
          have hBd6 := Lib.hid (hBd.out.chg (Chg.refl [] wc).drew)
          have hK6 : Hid (Kept g wc wc.drew) := Lib.hid (Kept.of (S := []) (Chg.refl [] wc).drew (by simp))
          refine wp_region_any (by kernel_rfl) ?_
          (try (change wpAny _ _ _ _ _ _ _ (World.drew _)))
          refine wpAny_take (i := 0) (v := ?_) rfl (by kernel_rfl) (by kernel_rfl) (by kernel_rfl) (fun _ _ _ h => h) (Or.inl ⟨by kernel_rfl, ?_⟩) ?_
          rotate_left
          · (intro w; go_simp; try with_reducible rfl)
          change wpAny _ _ _ _ _ _ (Act.put _ (some 40) _) _
          (try simp only [Act.put, List.setIfInBounds_toArray, List.set_cons_zero, List.set_cons_succ])
          (generalize World.drew wc = w6 at hBd6 hK6 ⊢)
          refine wpAny_take (i := 1) (v := ?_) rfl (by kernel_rfl) (by kernel_rfl) (by kernel_rfl) (fun _ _ _ h => h) (Or.inl ⟨by kernel_rfl, ?_⟩) ?_
          rotate_left
          · (intro w; go_simp; try with_reducible rfl)
          change wpAny _ _ _ _ _ _ (Act.put _ (some 41) _) _
          (try simp only [Act.put, List.setIfInBounds_toArray, List.set_cons_zero, List.set_cons_succ])
          refine wpAny_take (i := 2) (v := ?_) rfl (by kernel_rfl) (by kernel_rfl) (by kernel_rfl) (fun _ _ _ h => h) (Or.inl ⟨by kernel_rfl, ?_⟩) ?_
          rotate_left
          · (intro w; go_simp; try with_reducible rfl)
          change wpAny _ _ _ _ _ _ (Act.put _ (some 42) _) _
          (try simp only [Act.put, List.setIfInBounds_toArray, List.set_cons_zero, List.set_cons_succ])
          refine wpAny_take (i := 3) (v := ?_) rfl (by kernel_rfl) (by kernel_rfl) (by kernel_rfl) (fun _ _ _ h => h) (Or.inl ⟨by kernel_rfl, ?_⟩) ?_
          rotate_left
          · (intro w; go_simp; try with_reducible rfl)
          change wpAny _ _ _ _ _ _ (Act.put _ (some 43) _) _
          (try simp only [Act.put, List.setIfInBounds_toArray, List.set_cons_zero, List.set_cons_succ])
          refine wpAny_ready (rs := [4]) (by kernel_rfl) (by simp) ?_
          refine AllReady.cons rfl (fun K hK => ?_) ?_
          · go_simp
            go_wp2_with (first
                | (go_at_call 61; refine (hoc.out _).mono ?_; rintro e w8 ⟨rfl, hC8⟩)
                | (go_at_call 45; refine (hws.out _ hBd6.out).mono ?_; rintro e w8 ⟨⟨n9, rfl⟩, hB9, hK9⟩))
            (try (refine hK _ _ ?_; clear hK K))
            (try simp only [Act.put, List.setIfInBounds_toArray, List.set_cons_zero, List.set_cons_succ])
            (replace hBd6 := Lib.hid (hBd6.out.chg hC8); replace hK6 := Lib.hid (hK6.out.trans (Kept.of (S := []) hC8 (by simp))); clear hC8)
            refine wpAny_ready (rs := [5]) (by kernel_rfl) (by simp) ?_
            refine AllReady.cons rfl (fun K hK => ?_) ?_
            · go_simp
              go_wp2_with (first
                  | (go_at_call 61; refine (hoc.out _).mono ?_; rintro e w8 ⟨rfl, hC8⟩)
                  | (go_at_call 45; refine (hws.out _ hBd6.out).mono ?_; rintro e w8 ⟨⟨n9, rfl⟩, hB9, hK9⟩))
              (try (refine hK _ _ ?_; clear hK K))
              (try simp only [Act.put, List.setIfInBounds_toArray, List.set_cons_zero, List.set_cons_succ])
              refine wpAny_done (by kernel_rfl) ?_ _
              (try simp only [Act.put, List.setIfInBounds_toArray, List.set_cons_zero, List.set_cons_succ])
              have hfin := Lib.hid (hrel.out (octB c) _ rfl hB9 (hK6.out.trans hK9) (by show _ + 4 ≤ _; omega))
              clear hB9 hK9 hBd6 hK6
              go_wp2_with fail
              go_roundg (s.length - (i + 1))
              case measure => omega
              case rel =>
                obtain ⟨i', X', h1, h2⟩ := hfin.out
                exact ⟨i', X', by rw [← h1], h2⟩
            exact AllReady.nil
          exact AllReady.nil
        | false =>
          have hwb := Lib.hid (writeByte_bd w0 wc g (bs ++ X) c hBd.out (by omega))
          go_wp2_with fail
          refine (hwb.out).mono ?_
          rintro e w8 ⟨rfl, hB9, hK9⟩
          have hfin := Lib.hid (hrel.out [c] _ rfl hB9 hK9 (by show _ + 1 ≤ _; omega))
          clear hB9 hK9
          go_wp2_with fail
          go_roundg (s.length - (i + 1))
          case measure => omega
          case rel =>
            obtain ⟨i', X', h1, h2⟩ := hfin.out
            exact ⟨i', X', by rw [← h1], h2⟩
    · obtain rfl : i = s.length := by omega
      have hT2 := hT.out
      rw [List.drop_length, textB, List.append_nil] at hT2
      rw [← hT2] at hBd
      clear hT hT2
      go_wp2_with fail
      go_end0
      exact ⟨rfl, hBd.out, hK.out⟩
end Go.Proofs.Yteodhnblbehenaa
