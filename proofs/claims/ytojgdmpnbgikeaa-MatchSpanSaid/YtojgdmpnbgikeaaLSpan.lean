/- The law MatchSpan, walked. No condition. -/
import Derived.Test.YtojgdmpnbgikeaaLMMore
set_option linter.unusedVariables false
set_option linter.unusedSimpArgs false
namespace Go.Proofs.Ytojgdmpnbgikeaa
open Go.RowKit PMatchFeeds YtojgdmpnbgikeaaW.PrintWords
namespace Mt
open Kmp Glob
/-- Where a hit comes from. -/
theorem span_cases (M : Nat) (l : List Br) (b : List UInt8) : (firstOf M l b = none ∧ ∀ j, j ≤ b.length → hitOf M l (b.take j) = none) ∨
    ∃ i f t x, firstOf M l b = some (i, f, t) ∧ (∀ j, j < t → hitOf M l (b.take j) = none) ∧ t ≤ b.length ∧ f ≤ t ∧ t ≤ f + M ∧ l[i]? = some x ∧ ((x.kind = 0 ∧ (b.drop f).take (t - f) = x.pat) ∨ x.kind = 1) := by
  rcases first_cases M l b with h | ⟨k, p, h1, h2, h3, h4⟩
  · exact .inl h
  · obtain ⟨x, h5, h6⟩ := hit_lt h2
    obtain ⟨h7, h8, h9⟩ := from_spec h6
    rw [List.length_take, Nat.min_eq_left h1] at h7 h8
    refine .inr ⟨p.1, p.2, k, x, h4, h3, h1, h7, h8, h5, ?_⟩
    rw [fits] at h9
    split at h9
    · rename_i hk
      rw [beq_iff_eq, List.drop_take] at h9
      exact .inl ⟨hk, h9⟩
    · split at h9
      · rename_i hk; exact .inr hk
      · cases h9
set_option maxRecDepth 100000 in
set_option maxHeartbeats 16000000 in
theorem matchSpan_walk (most : Int) (m1 : -9223372036854775808 ≤ most) (m2 : most ≤ 9223372036854775807) (A Ab : Option Addr) (b : List UInt8) (l : List Br) (n c nb cb : Nat) (hn : l.length = n) (hnb : b.length = nb) (hl : ∀ x ∈ l, x.pat.length ≤ 9223372036854775807) (w : World)
    (hB : Sl w 1 (.slice Ab nb cb) nb (cellsOf .u8 (ns b))) (hS : Sl w 2 (.slice A n c) n (brCells l)) :
    Calls Try.prog 7 #[.int .i64 most, .slice Ab nb cb, .slice A n c] w fun e w' => e = .returned (.bool true) ∧ Below w.heap.size w w' := by
  have hn9 : n ≤ 9223372036854775807 := by
    have := sl_max hS
    unfold maxLen at this
    omega
  have hcb : nb ≤ cb := (sl_max hB).1
  have hgr := fun W (hW : Chg [] w W) => great_any W b l A Ab n c nb cb hn (hS.chg hW (by simp)) hnb (hB.chg hW (by simp))
  have hfi := fun W (hW : Chg [] w W) (h9 : nb < 900000) => mfirst_any W most l b A Ab n c nb cb hn (hS.chg hW (by simp)) hl hnb (hB.chg hW (by simp)) h9
  have hck := fun W (hW : Chg [] w W) => check_ref W most m1 m2 l A n c hn hn9 (hS.chg hW (by simp)) hl
  have hht : newErr most l = 0 → nb ≤ 60 → ∀ M : Nat, most = M → ∀ W, Chg [] w W → ∀ k, Calls Try.prog 13 #[.int .i64 M, .string (bs (b.take k)), .slice A n c] W fun e w' => e = .returned (.tuple #[.int .i64 (hitI (hitOf M l (b.take k))), .int .i64 (of_ (hitOf M l (b.take k)))]) ∧ Chg [] W w' := fun h0 h9 M hM W hW k => by
    subst hM
    exact hit_ref W M (by have := (new_zero h0).2.1; omega) (b.take k) (by rw [List.length_take]; omega) l A n c hn (by have := (new_zero h0).2.2.1; omega) (hS.chg hW (by simp)) (lgood (new_zero h0).2.2.2 hl)
  have hst := fun W (hW : Chg [] w W) k (hk : k ≤ nb) => by
    have hq : Sl W 1 (.slice Ab k cb) k (cellsOf .u8 (ns (b.take k))) := by
      have := (hB.chg hW (by simp)).upto k hk
      simpa [cellsOf, ns] using this
    have := sl_string (P := Try.prog) hq 22 5 9 Try.underlying22 Try.underlying5 Try.underlying9
    rwa [str_ns] at this
  have hsc := fun M => span_cases M l b
  rw [hnb] at hsc
  have hbr := fun W (hW : Chg [] w W) k x (hx : l[k]? = some x) => br_at (hS.chg hW (by simp)) hx
  have hsl : ∀ W, Chg [] w W → Sl W 1 (.slice Ab nb cb) nb (cellsOf .u8 (ns b)) := fun W hW => hB.chg hW (by simp)
  replace hgr := Lib.hid hgr
  replace hfi := Lib.hid hfi
  replace hck := Lib.hid hck
  replace hht := Lib.hid hht
  replace hst := Lib.hid hst
  replace hbr := Lib.hid hbr
  replace hsl := Lib.hid hsl
  replace hsc := Lib.hid hsc
  clear hB hS hl hn9
  replace hnb := Lib.hid hnb
  replace hn := Lib.hid hn
  go_enter Try.func7, Try.ntmps7
  go_wp2_with fail
  refine (alive_any _).mono ?_
  rintro e w1 ⟨rfl, hC1⟩
  replace hC1 := Lib.hid hC1
  go_wp2_with fail
  refine (hgr.out _ hC1.out).mono ?_
  rintro e w2 ⟨v, rfl, hv, hC2⟩
  replace hC2 := Lib.hid (hC1.out.trans hC2.out)
  clear hC1 hgr
  cases v with
  | true =>
    clear hv hck hfi hht hst hbr hsl hsc
    go_wp2_with fail
    refine (alive_any _).mono ?_
    rintro e w3 ⟨rfl, hC3⟩
    replace hC3 := Lib.hid (hC2.out.trans hC3)
    go_wp2_with fail
    go_ret
    exact ⟨rfl, hC3.out.below⟩
  | false =>
    obtain ⟨h60, h70⟩ := hv.out rfl
    clear hv
    go_wp2_with fail
    refine (hck.out _ hC2.out).mono ?_
    rintro e w3 ⟨rfl, hC3⟩
    replace hC3 := Lib.hid (hC2.out.trans hC3)
    clear hC2 hck
    have h9 : nb < 900000 := by omega
    rcases Classical.em (newErr most l = 0) with h0 | h0
    rotate_left
    · obtain ⟨er, her⟩ : ∃ er, newErr most l = er := ⟨_, rfl⟩
      rw [her] at h0 ⊢
      have h0' : (er != 0) = true := by simpa using h0
      replace her := Lib.hid her
      clear hfi hht hst hbr hsl hsc
      go_wp2_with fail
      refine (alive_any _).mono ?_
      rintro e w4 ⟨rfl, hC4⟩
      replace hC4 := Lib.hid (hC3.out.trans hC4)
      go_wp2_with fail
      go_ret
      exact ⟨rfl, hC4.out.below⟩
    · rw [h0]
      obtain ⟨M, hM⟩ := Int.eq_ofNat_of_zero_le (show 0 ≤ most by have := (new_zero h0).1; omega)
      have hM9 : M ≤ 1048576 := by have := (new_zero h0).2.1; rw [hM] at this; exact Int.ofNat_le.1 this
      have hht' := hht.out h0 h60 M hM
      have hfi' := fun W hW => hfi.out W hW h9
      unfold FiEnd at hfi'
      rw [firstV_ok h0] at hfi'
      subst hM
      rw [Int.toNat_natCast] at hfi'
      have hsc' := hsc.out M
      replace hfi' := Lib.hid hfi'
      replace hht' := Lib.hid hht'
      replace h0 := Lib.hid h0
      clear hfi hht hsc
      rcases hsc' with ⟨hF, hno⟩ | ⟨i, f, t, x, hF, hno, htb, hft, htm, hx, hkind⟩
      · rw [hF] at hfi'
        simp only [fV, Option.isSome] at hfi'
        replace hno := Lib.hid hno
        clear hF hbr hsl
        go_wp2_with fail
        refine (hfi'.out _ hC3.out).mono ?_
        rintro e w4 ⟨hC4, rfl⟩
        have hC5 := Lib.hid ((hC3.out.trans hC4).alloc (.cells #[.int .i64 0, .int .i64 0, .int .i64 0] 34))
        clear hC3 hC4 hfi'
        go_wp2_with fail
        generalize w4.alloc (.cells #[.int .i64 0, .int .i64 0, .int .i64 0] 34) = w5 at hC5 ⊢
        go_loopw [12] (fun v12 wr => ∃ k : Nat, v12 = .int .i64 k ∧ k ≤ nb + 1 ∧ Hid (Chg [] w wr)) (fun v12 _ => nb + 1 - (intOf v12).toNat)
        case atStart => exact ⟨0, rfl, by omega, hC5⟩
        case round =>
          clear hC5
          obtain ⟨k, rfl, hk, hC⟩ := hrel
          by_cases hkl : k ≤ nb
          · have hcv := hst.out wr hC.out k hkl
            have hh := hht'.out wr hC.out k
            rw [hno.out k hkl] at hh
            replace hh := Lib.hid hh
            go_wp2_with fail
            refine (hh.out).mono ?_
            rintro e w6 ⟨rfl, hC6⟩
            replace hC6 := Lib.hid (hC.out.trans hC6)
            clear hC hh hcv
            simp only [hitI, of_]
            go_wp2_with fail
            go_roundw
            case rel => exact ⟨k + 1, by go_num, by omega, hC6⟩
            case measure => simp [intOf]; omega
          · go_wp2_with fail
            go_ret
            exact ⟨rfl, hC.out.below⟩
      · rw [hF] at hfi'
        simp only [fV, Option.isSome] at hfi'
        have hin : i < n := by have := (List.getElem?_eq_some_iff.1 hx).1; rw [hn.out] at this; exact this
        replace hno := Lib.hid hno
        replace hx := Lib.hid hx
        replace hkind := Lib.hid hkind
        clear hF
        go_wp2_with fail
        refine (hfi'.out _ hC3.out).mono ?_
        rintro e w4 ⟨hC4, rfl⟩
        have hC5 := Lib.hid ((hC3.out.trans hC4).alloc (.cells #[.int .i64 i, .int .i64 f, .int .i64 t] 34))
        have hb7 := blk_new w4 (.cells #[.int .i64 i, .int .i64 f, .int .i64 t] 34)
        obtain ⟨g7, hg7⟩ : ∃ g7, w4.heap.size = g7 := ⟨_, rfl⟩
        rw [hg7] at hb7
        obtain ⟨p0, p1, p2⟩ := hit_cells hb7
        replace hb7 := Lib.hid hb7
        clear hC3 hC4 hfi'
        obtain ⟨br, bo, rfl, x0, x1⟩ := hbr.out _ hC5.out i x hx.out
        go_upto_region 10 with fail
        generalize w4.alloc (.cells #[.int .i64 i, .int .i64 f, .int .i64 t] 34) = w5 at hC5 hb7 x0 x1 p0 p1 p2 ⊢
        clear hg7
        have hb7' := hb7.out
        have hC6 := hC5.out.alloc (.cells #[.int .i64 x.kind, .string (bs x.pat)] 45)
        have hD := (Chg.refl [] w5).alloc (.cells #[.int .i64 x.kind, .string (bs x.pat)] 45)
        have hb11 := blk_new w5 (.cells #[.int .i64 x.kind, .string (bs x.pat)] 45)
        obtain ⟨g11, hg11⟩ : ∃ g11, w5.heap.size = g11 := ⟨_, rfl⟩
        rw [hg11] at hb11
        have hb7W := hD.heap hb7' (by simp)
        clear hb7 hb7' hD
        go_upto_region 11 with fail
        generalize w5.alloc (.cells #[.int .i64 x.kind, .string (bs x.pat)] 45) = W at hC6 hb11 hb7W ⊢
        clear hg11 hC5 p0 p1 p2 x0 x1
        obtain ⟨p0, p1, p2⟩ := hit_cells hb7W
        have y0 : W.cell? ⟨g11, 0, none⟩ = some (.int .i64 x.kind) := by simp [World.cell?, hb11]
        have y1 : W.cell? ⟨g11, 1, none⟩ = some (.string (bs x.pat)) := by simp [World.cell?, hb11]
        replace hC6 := Lib.hid hC6
        replace hb7W := Lib.hid hb7W
        clear hb11
        have hkd := hkind.out
        rcases hkd with ⟨hk0, hpat⟩ | hk1
        · rw [hk0] at y0
          obtain ⟨A', c', hmid, hSm, -⟩ := slice_mid (P := Try.prog) 22 5 Try.underlying22 Try.info_u8k (hsl.out W hC6.out) (f : Int) (t : Int) (by omega) (by omega) (by omega) (t - f) (by omega)
          have hSm2 : Sl W 1 (.slice A' (t - f) c') (t - f) (cellsOf .u8 (ns x.pat)) := by
            rw [← hpat, ← List.drop_take]
            simpa [cellsOf, ns] using hSm
          have hcv := fun (m : Nat) => by
            have := sl_string (P := Try.prog) (hSm2.chg ((Chg.refl [] W).drewN m) (by simp)) 22 5 9 Try.underlying22 Try.underlying5 Try.underlying9
            rwa [str_ns] at this
          replace hpat := Lib.hid hpat
          clear hSm hSm2
          go_quiet (fail)
          go_wp2_with fail
          clear hcv hmid p0 p1 p2 y0 y1
          go_loopw [12] (fun v12 wr => ∃ k : Nat, v12 = .int .i64 k ∧ k ≤ t ∧ Hid (Chg [] w wr)) (fun v12 _ => t - (intOf v12).toNat)
          case atStart => exact ⟨0, rfl, by omega, Lib.hid (hC6.out.drewN nq)⟩
          case round =>
            clear hC6 hb7W
            obtain ⟨k, rfl, hk, hC⟩ := hrel
            by_cases hkl : k < t
            · have hcv := hst.out wr hC.out k (by omega)
              have hh := hht'.out wr hC.out k
              rw [hno.out k hkl] at hh
              replace hh := Lib.hid hh
              go_wp2_with fail
              refine (hh.out).mono ?_
              rintro e w6 ⟨rfl, hC6⟩
              replace hC6 := Lib.hid (hC.out.trans hC6)
              clear hC hh hcv
              simp only [hitI, of_]
              go_wp2_with fail
              go_roundw
              case rel => exact ⟨k + 1, by go_num, by omega, hC6⟩
              case measure => simp [intOf]; omega
            · go_wp2_with fail
              go_ret
              exact ⟨rfl, hC.out.below⟩
        · rw [hk1] at y0
          go_quiet (fail)
          go_wp2_with fail
          clear p0 p1 p2 y0 y1
          go_loopw [12] (fun v12 wr => ∃ k : Nat, v12 = .int .i64 k ∧ k ≤ t ∧ Hid (Chg [] w wr)) (fun v12 _ => t - (intOf v12).toNat)
          case atStart => exact ⟨0, rfl, by omega, Lib.hid (hC6.out.drewN nq)⟩
          case round =>
            clear hC6 hb7W
            obtain ⟨k, rfl, hk, hC⟩ := hrel
            by_cases hkl : k < t
            · have hcv := hst.out wr hC.out k (by omega)
              have hh := hht'.out wr hC.out k
              rw [hno.out k hkl] at hh
              replace hh := Lib.hid hh
              go_wp2_with fail
              refine (hh.out).mono ?_
              rintro e w6 ⟨rfl, hC6⟩
              replace hC6 := Lib.hid (hC.out.trans hC6)
              clear hC hh hcv
              simp only [hitI, of_]
              go_wp2_with fail
              go_roundw
              case rel => exact ⟨k + 1, by go_num, by omega, hC6⟩
              case measure => simp [intOf]; omega
            · go_wp2_with fail
              go_ret
              exact ⟨rfl, hC.out.below⟩
theorem matchSpan_row (v0 : Value) (d0 : Dt) (v1 : Value) (d1 : Dt) (v2 : Value) (d2 : Dt) (w : World) (h0 : Reads w (.int .i64) v0 d0) (h1 : Reads w (.sl [.int .u8]) v1 d1) (h2 : Reads w (.sl [.int .i64, .str]) v2 d2) :
    Calls Try.prog 7 #[v0, v1, v2] w fun e w' => e = .returned (.bool true) ∧ Below w.heap.size w w' := by
  obtain ⟨n, rfl, b1, b2⟩ := i64_of_reads h0
  obtain ⟨Ab, cb, b, rfl, hB, hl1, hc1⟩ := ns_of_reads h1
  obtain ⟨A, c, l, rfl, hS, hl2, hc2, hp⟩ := brs_of_reads h2
  exact matchSpan_walk n b1 b2 A Ab b l _ c _ cb rfl rfl hp w hB hS
end Mt
end Go.Proofs.Ytojgdmpnbgikeaa
