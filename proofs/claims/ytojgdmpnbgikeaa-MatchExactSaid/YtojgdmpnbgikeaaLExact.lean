/- The law MatchExact, walked. No condition. -/
import Derived.Test.YtojgdmpnbgikeaaMAlive
import Derived.Test.YtojgdmpnbgikeaaExact
import Derived.Test.YtojgdmpnbgikeaaMU8
import Derived.Deep.CutBlock
import Derived.Deep.DeepCutAuto
import Derived.IntWalk
set_option linter.unusedVariables false
set_option linter.unusedSimpArgs false
namespace Go.Proofs.Ytojgdmpnbgikeaa
open Go.RowKit YtojgdmpnbgikeaaW.PrintWords
namespace Mt
open Kmp
theorem Try.info_i64 : (Try.prog.info? 3).map (fun i => (i.zero, i.size, i.bytes)) = some (some (.int .i64 0), 1, 8) := by kernel_rfl
theorem cells_snoc (k : IntKind) (b : List UInt8) (c : UInt8) : cellsOf k (ns b) ++ [.int k c.toNat] = cellsOf k (ns (b ++ [c])) := by simp [cellsOf, ns]
set_option maxRecDepth 100000 in
set_option maxHeartbeats 16000000 in
theorem matchExact_walk (most : Int) (A P : Option Addr) (b0 p0 : List UInt8) (c1 c2 : Nat) (hm1 : -9223372036854775808 ≤ most) (hm2 : most ≤ 9223372036854775807) (hb : b0.length ≤ c1) (hp : p0.length ≤ c2) (hc1 : c1 ≤ maxLen) (hc2 : c2 ≤ maxLen) (w : World)
    (hB : Sl w 1 (.slice A b0.length c1) b0.length (cellsOf .u8 (ns b0))) (hP : Sl w 1 (.slice P p0.length c2) p0.length (cellsOf .u8 (ns p0))) :
    Calls Try.prog 5 #[.int .i64 most, .slice A b0.length c1, .slice P p0.length c2] w fun e w' => e = .returned (.bool true) ∧ Below w.heap.size w w' := by
  unfold maxLen at hc1 hc2
  replace hB := Lib.hid hB
  replace hP := Lib.hid hP
  go_enter Try.func5, Try.ntmps5
  go_upto_region 1 with fail
  go_cut [1, 2] (fun v1 v2 wx => ∃ nb np : Nat, nb ≤ 200 ∧ nb ≤ b0.length ∧ np ≤ 60 ∧ np ≤ p0.length ∧ v1 = .slice A nb c1 ∧ v2 = .slice P np c2 ∧ Chg [] w wx)
  case first =>
    by_cases hb2 : b0.length ≤ 200
    all_goals by_cases hp2 : p0.length ≤ 60
    all_goals
      go_wp2_with fail
      go_quiet (fail)
      go_wp2_with fail
      go_meet
      first
      | exact ⟨_, _, by omega, by omega, by omega, by omega, rfl, rfl, (Chg.refl [] w).drewN _⟩
      | (trace_state; sorry)
  case rest =>
  obtain ⟨nb, np, hnb, hnb2, hnp, hnp2, rfl, rfl, hC⟩ := hcut
  go_upto_region 2 with fail
  go_cut [7] (fun v7 wx => ∃ M : Nat, 1 ≤ M ∧ M ≤ 70 ∧ v7 = .int .i64 M ∧ wx = wc)
  case first =>
    by_cases h0 : 0 ≤ most
    all_goals
      go_wp2_with fail
    all_goals
      go_meet
      first
      | exact ⟨1, by decide, by decide, rfl, rfl⟩
      | exact ⟨(1 + most % 70).toNat, by omega, by omega, by rw [Int.toNat_of_nonneg (by omega)], rfl⟩
  case rest =>
  obtain ⟨M, hM1, hM2, rfl, rfl⟩ := hcut
  have hlb : (b0.take nb).length = nb := by rw [List.length_take]; omega
  have hlp : (p0.take np).length = np := by rw [List.length_take]; omega
  have sB : Sl wc 1 (.slice A nb c1) nb (cellsOf .u8 (ns (b0.take nb))) := by
    have := (hB.out.upto nb hnb2).chg hC (by simp)
    simpa [cellsOf, ns] using this
  have sP : Sl wc 1 (.slice P np c2) np (cellsOf .u8 (ns (p0.take np))) := by
    have := (hP.out.upto np hnp2).chg hC (by simp)
    simpa [cellsOf, ns] using this
  generalize b0.take nb = b at hlb sB
  generalize p0.take np = p at hlp sP
  have hv := sl_string (P := Try.prog) sP 22 5 9 Try.underlying22 Try.underlying5 Try.underlying9
  rw [str_ns] at hv
  have hex := exact_first (M := M) (p := p) (b := b)
  replace hex := Lib.hid hex
  have hsn := sl_rows_new wc (brCells [⟨0, p⟩]) 45 (0, 0) 2 1 rfl (by simp [maxLen])
  have hC1 := (Chg.refl [] wc).alloc (.cells (brCells [⟨0, p⟩]).toArray 45)
  have hfi := Lib.hid (mfirst_any (wc.alloc (.cells (brCells [⟨0, p⟩]).toArray 45)) M [⟨0, p⟩] b _ A 1 1 nb c1 rfl hsn (by intro x hx; simp at hx; subst hx; simp only; omega) hlb (sB.chg hC1 (by simp)) (by omega))
  replace sB := Lib.hid sB
  replace sP := Lib.hid sP
  replace hC := Lib.hid hC
  replace hC1 := Lib.hid hC1
  have hfv : firstV M [⟨0, p⟩] b = match firstOf M [⟨0, p⟩] b with
      | some q => .tuple #[.agg #[.int .i64 q.1, .int .i64 q.2.1, .int .i64 q.2.2], .bool true, .int .i64 0]
      | none => .tuple #[.agg #[.int .i64 0, .int .i64 0, .int .i64 0], .bool false, .int .i64 0] := by
    have : newErr M [⟨0, p⟩] = 0 := by
      rw [newErr, if_neg (by omega), if_neg (by simp)]
      simp [brErr]
    rw [firstV, if_neg (by rw [this]; simp), Int.toNat_natCast]
    cases firstOf M [⟨0, p⟩] b <;> rfl
  replace hfv := Lib.hid hfv
  replace hlb := Lib.hid hlb
  replace hlp := Lib.hid hlp
  clear hsn
  have hcases : (M < p.length ∨ allOcc (ns b) (ns p) = []) ∨ (p.length ≤ M ∧ ∃ i r, allOcc (ns b) (ns p) = i :: r) := by
    rcases Nat.lt_or_ge M p.length with h | h
    · exact .inl (.inl h)
    · cases h2 : allOcc (ns b) (ns p) with
      | nil => exact .inl (.inr rfl)
      | cons i r => exact .inr ⟨h, i, r, rfl⟩
  rcases hcases with hcase | ⟨hpM, i, r, hocc⟩
  · have hf := hex.out.1 hcase
    have hfe := hfv.out
    rw [hf] at hfe
    replace hfe := Lib.hid hfe
    replace hcase := Lib.hid hcase
    clear hf hfv hex
    go_wp2_with fail
    refine (hfi.out).mono ?_
    rintro e w0 ⟨hC2, rfl⟩
    rw [hfe.out]
    have hCw := hC1.out.trans hC2
    obtain ⟨w1, hw1⟩ : ∃ w1, w0.alloc (.cells #[.int .i64 0, .int .i64 0, .int .i64 0] 34) = w1 := ⟨_, rfl⟩
    have hCw1 : Chg [] wc w1 := by rw [← hw1]; exact hCw.alloc _
    have hbh : w1.heap[w0.heap.size]? = some (.cells #[.int .i64 0, .int .i64 0, .int .i64 0] 34 (0, 0)) := by rw [← hw1]; exact blk_new _ _
    replace sB := Lib.hid (sB.out.chg hCw1 (by simp))
    replace sP := Lib.hid (sP.out.chg hCw1 (by simp))
    replace hC := Lib.hid (hC.out.trans hCw1)
    replace hbh := Lib.hid hbh
    replace hw1 := Lib.hid hw1
    clear hC2 hCw hCw1 hfi hv
    go_wp2_with fail
    rw [hw1.out]
    clear hw1

    go_loopw [11, 47] (fun v11 v47 wr => ∃ (k : Nat) (A2 : Option Addr) (c4 : Nat), v47 = .int .i64 k ∧ v11 = .slice A2 k c4 ∧ k ≤ nb ∧ Hid (wr.ownsRow w1.heap.size 3 1 (.slice A2 k c4) k (cellsOf .i64 (ns (b.take k)))) ∧ Hid (Chg [] w1 wr)) (fun _ v47 _ => nb - (intOf v47).toNat)
    case atStart => exact ⟨0, none, 0, rfl, rfl, by omega, Lib.hid (World.ownsRow_nil _ _ _ _), Lib.hid (Chg.refl _ _)⟩
    case round =>
      obtain ⟨k, A2, c4, rfl, rfl, hk, hO, hD⟩ := hrel
      by_cases hlt : k < nb
      · have hl := sB.out
        obtain ⟨cc, hcc⟩ : ∃ cc, b[k]? = some cc := ⟨_, List.getElem?_eq_getElem (by have := hlb.out; omega)⟩
        obtain ⟨ad, rfl, hcell⟩ := sl_at ((sB.out).chg hD.out (by simp)) (k := k) (u := .int .u8 cc.toNat) (by simp [cellsOf, ns, hcc])
        have htk : b.take (k + 1) = b.take k ++ [cc] := by rw [List.take_add_one, hcc]; rfl
        have b1 : (0 : Int) ≤ cc.toNat := by omega
        have b2 : (cc.toNat : Int) ≤ 255 := by have := cc.toNat_lt; omega
        have hsn := sl_rows_new wr [.int .i64 cc.toNat] 3 (0, 0) 1 1 rfl (by simp [maxLen])
        have hO4 := own_chg hO.out ((Chg.refl [] wr).alloc (.cells [Value.int .i64 cc.toNat].toArray 3)) (by simp)
        have hbs := hD.out.size
        replace htk := Lib.hid htk
        replace hsn := Lib.hid hsn
        replace hO4 := Lib.hid hO4
        clear hcc hl
        go_wp2_with (refine wpList_append_sl rfl (.tmp 51) (.tmp 54) 46 rfl w1.heap.size 3 (.int .i64 0) 1 8 Try.underlying46 Try.info_i64 rfl (by decide) _ k (cellsOf .i64 (ns (b.take k))) rfl hO4.out _ 1 [.int .i64 cc.toNat] rfl hsn.out (by intro v hv; simp at hv; subst hv; rfl) (k + 1) rfl (by omega) (by decide) (by simp; omega) ?_)
        intro A5 c5 w5 hO' hCh hat
        have hC5 := (hD.out.alloc (.cells [Value.int .i64 cc.toNat].toArray 3)).then hCh (fun q hq => .inr (hO.out.lt q (by simpa using hq)).1)
        replace hO' := Lib.hid hO'
        replace hC5 := Lib.hid hC5
        clear hCh hat
        go_wp2_with fail
        go_roundw
        case measure => simp [intOf]; omega
        case rel => exact ⟨k + 1, A5, c5, by go_num, rfl, by omega, Lib.hid (by rw [htk.out, ← cells_snoc]; exact hO'.out), hC5⟩
      · obtain rfl : nb = k := by omega
        have hOk := hO.out
        rw [List.take_of_length_le (by have := hlb.out; omega)] at hOk
        replace hOk := Lib.hid hOk
        clear hO hlt
        replace sP := Lib.hid (sP.out.chg hD.out (by simp))
        replace hC := Lib.hid (hC.out.trans hD.out)
        replace hbh := Lib.hid (hD.out.heap hbh.out (by simp))
        have hT := Lib.hid (own_sl hOk.out)
        obtain ⟨w2, hw2⟩ : ∃ w2, w2 = wr := ⟨_, rfl⟩
        rw [← hw2] at hC hbh hT sP ⊢
        clear hOk hD hw2
        go_wp2_with fail

        go_loopw [12, 59] (fun v12 v59 wr => ∃ (k : Nat) (A2 : Option Addr) (c4 : Nat), v59 = .int .i64 k ∧ v12 = .slice A2 k c4 ∧ k ≤ np ∧ Hid (wr.ownsRow w2.heap.size 3 1 (.slice A2 k c4) k (cellsOf .i64 (ns (p.take k)))) ∧ Hid (Chg [] w2 wr)) (fun _ v59 _ => np - (intOf v59).toNat)
        case atStart => exact ⟨0, none, 0, rfl, rfl, by omega, Lib.hid (World.ownsRow_nil _ _ _ _), Lib.hid (Chg.refl _ _)⟩
        case round =>
          obtain ⟨k, A2, c4, rfl, rfl, hk, hO, hD⟩ := hrel
          by_cases hlt : k < np
          · have hl := sP.out
            obtain ⟨cc, hcc⟩ : ∃ cc, p[k]? = some cc := ⟨_, List.getElem?_eq_getElem (by have := hlp.out; omega)⟩
            obtain ⟨ad, rfl, hcell⟩ := sl_at ((sP.out).chg hD.out (by simp)) (k := k) (u := .int .u8 cc.toNat) (by simp [cellsOf, ns, hcc])
            have htk : p.take (k + 1) = p.take k ++ [cc] := by rw [List.take_add_one, hcc]; rfl
            have b1 : (0 : Int) ≤ cc.toNat := by omega
            have b2 : (cc.toNat : Int) ≤ 255 := by have := cc.toNat_lt; omega
            have hsn := sl_rows_new wr [.int .i64 cc.toNat] 3 (0, 0) 1 1 rfl (by simp [maxLen])
            have hO4 := own_chg hO.out ((Chg.refl [] wr).alloc (.cells [Value.int .i64 cc.toNat].toArray 3)) (by simp)
            have hbs := hD.out.size
            replace htk := Lib.hid htk
            replace hsn := Lib.hid hsn
            replace hO4 := Lib.hid hO4
            clear hcc hl
            go_wp2_with (refine wpList_append_sl rfl (.tmp 63) (.tmp 66) 46 rfl w2.heap.size 3 (.int .i64 0) 1 8 Try.underlying46 Try.info_i64 rfl (by decide) _ k (cellsOf .i64 (ns (p.take k))) rfl hO4.out _ 1 [.int .i64 cc.toNat] rfl hsn.out (by intro v hv; simp at hv; subst hv; rfl) (k + 1) rfl (by omega) (by decide) (by simp; omega) ?_)
            intro A5 c5 w5 hO' hCh hat
            have hC5 := (hD.out.alloc (.cells [Value.int .i64 cc.toNat].toArray 3)).then hCh (fun q hq => .inr (hO.out.lt q (by simpa using hq)).1)
            replace hO' := Lib.hid hO'
            replace hC5 := Lib.hid hC5
            clear hCh hat
            go_wp2_with fail
            go_roundw
            case measure => simp [intOf]; omega
            case rel => exact ⟨k + 1, A5, c5, by go_num, rfl, by omega, Lib.hid (by rw [htk.out, ← cells_snoc]; exact hO'.out), hC5⟩
          · obtain rfl : np = k := by omega
            have hOk := hO.out
            rw [List.take_of_length_le (by have := hlp.out; omega)] at hOk
            replace hOk := Lib.hid hOk
            clear hO hlt
            replace hC := Lib.hid (hC.out.trans hD.out)
            replace hbh := Lib.hid (hD.out.heap hbh.out (by simp))
            have hT2 := Lib.hid (hT.out.chg hD.out (by simp))
            have hal := Lib.hid (fun W X Y cx cy hTT hPP => all_any W X Y cx cy nb np (ns b) (ns p) (by rw [ns_length]; exact hlb.out) (by rw [ns_length]; exact hlp.out) hTT hPP (by omega) (by omega))
            have hPs := Lib.hid (own_sl hOk.out)
            clear hT sP hOk hD
            go_wp2_with fail
            refine (hal.out _ _ _ _ _ hT2.out hPs.out).mono ?_
            rintro e w3 ⟨L, cl, rfl, hL, hC3⟩
            replace hC := Lib.hid (hC.out.trans hC3)
            replace hbh := Lib.hid (hC3.heap hbh.out (by simp))
            clear hC3 hal hT2 hPs

            have hd : decide (M < np) = true ∨ (decide (M < np) = false ∧ allOcc (ns b) (ns p) = []) := by
              have hlp' := hlp.out
              rcases hcase.out with h | h
              · left; simp; omega
              · rcases Nat.lt_or_ge M np with h2 | h2
                · left; simp; omega
                · right; exact ⟨by simp; omega, h⟩
            rcases hd with hd | ⟨hd, hnil⟩
            · generalize (allOcc (ns b) (ns p)).length = nl at hL ⊢
              clear hL
              go_wp2_with fail
              refine (alive_any _).mono ?_
              rintro e w4 ⟨rfl, hC4⟩
              replace hC := Lib.hid (hC.out.trans hC4)
              clear hC4
              go_wp2_with fail
              go_ret
              exact ⟨rfl, hC.out.below⟩
            · rw [hnil] at hL ⊢
              clear hL
              simp only [List.length_nil]
              go_wp2_with fail
              refine (alive_any _).mono ?_
              rintro e w4 ⟨rfl, hC4⟩
              replace hC := Lib.hid (hC.out.trans hC4)
              clear hC4
              go_wp2_with fail
              go_ret
              exact ⟨rfl, hC.out.below⟩
  · obtain ⟨j, rfl, hjp, hf⟩ := hex.out.2 hpM i r hocc
    have hfe := hfv.out
    rw [hf] at hfe
    replace hfe := Lib.hid hfe
    replace hocc := Lib.hid hocc
    replace hpM := Lib.hid hpM
    replace hjp := Lib.hid hjp
    clear hf hfv hex
    go_wp2_with fail
    refine (hfi.out).mono ?_
    rintro e w0 ⟨hC2, rfl⟩
    rw [hfe.out]
    have hCw := hC1.out.trans hC2
    obtain ⟨w1, hw1⟩ : ∃ w1, w0.alloc (.cells #[.int .i64 0, .int .i64 j, .int .i64 ((j : Int) + (p.length : Int))] 34) = w1 := ⟨_, rfl⟩
    have hCw1 : Chg [] wc w1 := by rw [← hw1]; exact hCw.alloc _
    have hbh : w1.heap[w0.heap.size]? = some (.cells #[.int .i64 0, .int .i64 j, .int .i64 ((j : Int) + (p.length : Int))] 34 (0, 0)) := by rw [← hw1]; exact blk_new _ _
    replace sB := Lib.hid (sB.out.chg hCw1 (by simp))
    replace sP := Lib.hid (sP.out.chg hCw1 (by simp))
    replace hC := Lib.hid (hC.out.trans hCw1)
    replace hbh := Lib.hid hbh
    replace hw1 := Lib.hid hw1
    clear hC2 hCw hCw1 hfi hv
    go_wp2_with fail
    rw [hw1.out]
    clear hw1

    go_loopw [11, 47] (fun v11 v47 wr => ∃ (k : Nat) (A2 : Option Addr) (c4 : Nat), v47 = .int .i64 k ∧ v11 = .slice A2 k c4 ∧ k ≤ nb ∧ Hid (wr.ownsRow w1.heap.size 3 1 (.slice A2 k c4) k (cellsOf .i64 (ns (b.take k)))) ∧ Hid (Chg [] w1 wr)) (fun _ v47 _ => nb - (intOf v47).toNat)
    case atStart => exact ⟨0, none, 0, rfl, rfl, by omega, Lib.hid (World.ownsRow_nil _ _ _ _), Lib.hid (Chg.refl _ _)⟩
    case round =>
      obtain ⟨k, A2, c4, rfl, rfl, hk, hO, hD⟩ := hrel
      by_cases hlt : k < nb
      · have hl := sB.out
        obtain ⟨cc, hcc⟩ : ∃ cc, b[k]? = some cc := ⟨_, List.getElem?_eq_getElem (by have := hlb.out; omega)⟩
        obtain ⟨ad, rfl, hcell⟩ := sl_at ((sB.out).chg hD.out (by simp)) (k := k) (u := .int .u8 cc.toNat) (by simp [cellsOf, ns, hcc])
        have htk : b.take (k + 1) = b.take k ++ [cc] := by rw [List.take_add_one, hcc]; rfl
        have b1 : (0 : Int) ≤ cc.toNat := by omega
        have b2 : (cc.toNat : Int) ≤ 255 := by have := cc.toNat_lt; omega
        have hsn := sl_rows_new wr [.int .i64 cc.toNat] 3 (0, 0) 1 1 rfl (by simp [maxLen])
        have hO4 := own_chg hO.out ((Chg.refl [] wr).alloc (.cells [Value.int .i64 cc.toNat].toArray 3)) (by simp)
        have hbs := hD.out.size
        replace htk := Lib.hid htk
        replace hsn := Lib.hid hsn
        replace hO4 := Lib.hid hO4
        clear hcc hl
        go_wp2_with (refine wpList_append_sl rfl (.tmp 51) (.tmp 54) 46 rfl w1.heap.size 3 (.int .i64 0) 1 8 Try.underlying46 Try.info_i64 rfl (by decide) _ k (cellsOf .i64 (ns (b.take k))) rfl hO4.out _ 1 [.int .i64 cc.toNat] rfl hsn.out (by intro v hv; simp at hv; subst hv; rfl) (k + 1) rfl (by omega) (by decide) (by simp; omega) ?_)
        intro A5 c5 w5 hO' hCh hat
        have hC5 := (hD.out.alloc (.cells [Value.int .i64 cc.toNat].toArray 3)).then hCh (fun q hq => .inr (hO.out.lt q (by simpa using hq)).1)
        replace hO' := Lib.hid hO'
        replace hC5 := Lib.hid hC5
        clear hCh hat
        go_wp2_with fail
        go_roundw
        case measure => simp [intOf]; omega
        case rel => exact ⟨k + 1, A5, c5, by go_num, rfl, by omega, Lib.hid (by rw [htk.out, ← cells_snoc]; exact hO'.out), hC5⟩
      · obtain rfl : nb = k := by omega
        have hOk := hO.out
        rw [List.take_of_length_le (by have := hlb.out; omega)] at hOk
        replace hOk := Lib.hid hOk
        clear hO hlt
        replace sP := Lib.hid (sP.out.chg hD.out (by simp))
        replace hC := Lib.hid (hC.out.trans hD.out)
        replace hbh := Lib.hid (hD.out.heap hbh.out (by simp))
        have hT := Lib.hid (own_sl hOk.out)
        obtain ⟨w2, hw2⟩ : ∃ w2, w2 = wr := ⟨_, rfl⟩
        rw [← hw2] at hC hbh hT sP ⊢
        clear hOk hD hw2
        go_wp2_with fail

        go_loopw [12, 59] (fun v12 v59 wr => ∃ (k : Nat) (A2 : Option Addr) (c4 : Nat), v59 = .int .i64 k ∧ v12 = .slice A2 k c4 ∧ k ≤ np ∧ Hid (wr.ownsRow w2.heap.size 3 1 (.slice A2 k c4) k (cellsOf .i64 (ns (p.take k)))) ∧ Hid (Chg [] w2 wr)) (fun _ v59 _ => np - (intOf v59).toNat)
        case atStart => exact ⟨0, none, 0, rfl, rfl, by omega, Lib.hid (World.ownsRow_nil _ _ _ _), Lib.hid (Chg.refl _ _)⟩
        case round =>
          obtain ⟨k, A2, c4, rfl, rfl, hk, hO, hD⟩ := hrel
          by_cases hlt : k < np
          · have hl := sP.out
            obtain ⟨cc, hcc⟩ : ∃ cc, p[k]? = some cc := ⟨_, List.getElem?_eq_getElem (by have := hlp.out; omega)⟩
            obtain ⟨ad, rfl, hcell⟩ := sl_at ((sP.out).chg hD.out (by simp)) (k := k) (u := .int .u8 cc.toNat) (by simp [cellsOf, ns, hcc])
            have htk : p.take (k + 1) = p.take k ++ [cc] := by rw [List.take_add_one, hcc]; rfl
            have b1 : (0 : Int) ≤ cc.toNat := by omega
            have b2 : (cc.toNat : Int) ≤ 255 := by have := cc.toNat_lt; omega
            have hsn := sl_rows_new wr [.int .i64 cc.toNat] 3 (0, 0) 1 1 rfl (by simp [maxLen])
            have hO4 := own_chg hO.out ((Chg.refl [] wr).alloc (.cells [Value.int .i64 cc.toNat].toArray 3)) (by simp)
            have hbs := hD.out.size
            replace htk := Lib.hid htk
            replace hsn := Lib.hid hsn
            replace hO4 := Lib.hid hO4
            clear hcc hl
            go_wp2_with (refine wpList_append_sl rfl (.tmp 63) (.tmp 66) 46 rfl w2.heap.size 3 (.int .i64 0) 1 8 Try.underlying46 Try.info_i64 rfl (by decide) _ k (cellsOf .i64 (ns (p.take k))) rfl hO4.out _ 1 [.int .i64 cc.toNat] rfl hsn.out (by intro v hv; simp at hv; subst hv; rfl) (k + 1) rfl (by omega) (by decide) (by simp; omega) ?_)
            intro A5 c5 w5 hO' hCh hat
            have hC5 := (hD.out.alloc (.cells [Value.int .i64 cc.toNat].toArray 3)).then hCh (fun q hq => .inr (hO.out.lt q (by simpa using hq)).1)
            replace hO' := Lib.hid hO'
            replace hC5 := Lib.hid hC5
            clear hCh hat
            go_wp2_with fail
            go_roundw
            case measure => simp [intOf]; omega
            case rel => exact ⟨k + 1, A5, c5, by go_num, rfl, by omega, Lib.hid (by rw [htk.out, ← cells_snoc]; exact hO'.out), hC5⟩
          · obtain rfl : np = k := by omega
            have hOk := hO.out
            rw [List.take_of_length_le (by have := hlp.out; omega)] at hOk
            replace hOk := Lib.hid hOk
            clear hO hlt
            replace hC := Lib.hid (hC.out.trans hD.out)
            replace hbh := Lib.hid (hD.out.heap hbh.out (by simp))
            have hT2 := Lib.hid (hT.out.chg hD.out (by simp))
            have hal := Lib.hid (fun W X Y cx cy hTT hPP => all_any W X Y cx cy nb np (ns b) (ns p) (by rw [ns_length]; exact hlb.out) (by rw [ns_length]; exact hlp.out) hTT hPP (by omega) (by omega))
            have hPs := Lib.hid (own_sl hOk.out)
            clear hT sP hOk hD
            go_wp2_with fail
            refine (hal.out _ _ _ _ _ hT2.out hPs.out).mono ?_
            rintro e w3 ⟨L, cl, rfl, hL, hC3⟩
            replace hC := Lib.hid (hC.out.trans hC3)
            replace hbh := Lib.hid (hC3.heap hbh.out (by simp))
            clear hC3 hal hT2 hPs

            have hd : decide (M < np) = false := by have := hlp.out; have := hpM.out; simp; omega
            rw [hocc.out] at hL ⊢
            obtain ⟨ad, rfl, hcell⟩ := sl_at hL (k := 0) (u := .int .i64 (j : Int)) (by simp [cellsOf])
            rw [show ad.add 0 = ad from by unfold Addr.add; simp] at hcell
            have hj1 : j ≤ 200 := by have := hjp.out; have := hlb.out; omega
            rw [hlp.out] at hbh
            obtain ⟨nl, hnl⟩ : ∃ nl, nl = r.length := ⟨_, rfl⟩
            simp only [List.length_cons]
            rw [← hnl]
            replace hnl := Lib.hid hnl
            clear hL
            have hw1' : IntKind.i64.wrap ((j : Int) + (np : Int)) = (j : Int) + (np : Int) := IntWalk.i64_in _ (by omega)
            go_wp2_with fail
            refine wp_region_any (by kernel_rfl) ?_
            (try (change wpAny _ _ _ _ _ _ _ (World.drew _)))
            refine wpAny_ready (rs := [0]) (by kernel_rfl) (by simp) ?_
            refine AllReady.cons rfl (fun K hK => ?_) ?_
            · go_simp
              go_wp2_with (first
                  | (refine (alive_any _).mono ?_; rintro e w4 ⟨rfl, hC4⟩))
              (try (refine hK _ _ ?_; clear hK K))
              (try simp only [Act.put, List.setIfInBounds_toArray, List.set_cons_zero, List.set_cons_succ])
              (have hb4 := ((Chg.refl [] w3).drew.trans hC4).heap hbh.out (by simp); have v0 : w4.cell? ⟨w0.heap.size, 0, none⟩ = some (.int .i64 0) := (by simp [World.cell?, hb4]); have v1 : w4.cell? ⟨w0.heap.size, 1, none⟩ = some (.int .i64 j) := (by simp [World.cell?, hb4]); have v2 : w4.cell? ⟨w0.heap.size, 2, none⟩ = some (.int .i64 ((j : Int) + (np : Int))) := (by simp [World.cell?, hb4]); have hcell4 := ((Chg.refl [] w3).drew.trans hC4).cell hcell (by simp); have hC' := Lib.hid (hC.out.trans ((Chg.refl [] w3).drew.trans hC4)); clear hC4 hb4)
              refine wpAny_take (i := 1) (v := ?_) rfl (by kernel_rfl) (by kernel_rfl) (by kernel_rfl) (fun _ _ _ h => h) (Or.inl ⟨by kernel_rfl, ?_⟩) ?_
              rotate_left
              · (intro w; go_simp; try with_reducible rfl)
              change wpAny _ _ _ _ _ _ (Act.put _ (some 87) _) _
              (try simp only [Act.put, List.setIfInBounds_toArray, List.set_cons_zero, List.set_cons_succ])
              refine wpAny_take (i := 2) (v := ?_) rfl (by kernel_rfl) (by kernel_rfl) (by kernel_rfl) (fun _ _ _ h => h) (Or.inl ⟨by kernel_rfl, ?_⟩) ?_
              rotate_left
              · (intro w; go_simp; try with_reducible rfl)
              change wpAny _ _ _ _ _ _ (Act.put _ (some 88) _) _
              (try simp only [Act.put, List.setIfInBounds_toArray, List.set_cons_zero, List.set_cons_succ])
              refine wpAny_take (i := 3) (v := ?_) rfl (by kernel_rfl) (by kernel_rfl) (by kernel_rfl) (fun _ _ _ h => h) (Or.inl ⟨by kernel_rfl, ?_⟩) ?_
              rotate_left
              · (intro w; go_simp; try with_reducible rfl)
              change wpAny _ _ _ _ _ _ (Act.put _ (some 89) _) _
              (try simp only [Act.put, List.setIfInBounds_toArray, List.set_cons_zero, List.set_cons_succ])
              refine wpAny_take (i := 4) (v := ?_) rfl (by kernel_rfl) (by kernel_rfl) (by kernel_rfl) (fun _ _ _ h => h) (Or.inl ⟨by kernel_rfl, ?_⟩) ?_
              rotate_left
              · (intro w; go_simp; try with_reducible rfl)
              change wpAny _ _ _ _ _ _ (Act.put _ (some 90) _) _
              (try simp only [Act.put, List.setIfInBounds_toArray, List.set_cons_zero, List.set_cons_succ])
              refine wpAny_take (i := 6) (v := ?_) rfl (by kernel_rfl) (by kernel_rfl) (by kernel_rfl) (fun _ _ _ h => h) (Or.inl ⟨by kernel_rfl, ?_⟩) ?_
              rotate_left
              · (intro w; go_simp; try with_reducible rfl)
              change wpAny _ _ _ _ _ _ (Act.put _ (some 92) _) _
              (try simp only [Act.put, List.setIfInBounds_toArray, List.set_cons_zero, List.set_cons_succ])
              refine wpAny_take (i := 9) (v := ?_) rfl (by kernel_rfl) (by kernel_rfl) (by kernel_rfl) (fun _ _ _ h => h) (Or.inl ⟨by kernel_rfl, ?_⟩) ?_
              rotate_left
              · (intro w; go_simp; try with_reducible rfl)
              change wpAny _ _ _ _ _ _ (Act.put _ (some 95) _) _
              (try simp only [Act.put, List.setIfInBounds_toArray, List.set_cons_zero, List.set_cons_succ])
              refine wpAny_take (i := 12) (v := ?_) rfl (by kernel_rfl) (by kernel_rfl) (by kernel_rfl) (fun _ _ _ h => h) (Or.inl ⟨by kernel_rfl, ?_⟩) ?_
              rotate_left
              · (intro w; go_simp; try with_reducible rfl)
              change wpAny _ _ _ _ _ _ (Act.put _ (some 98) _) _
              (try simp only [Act.put, List.setIfInBounds_toArray, List.set_cons_zero, List.set_cons_succ])
              refine wpAny_take (i := 13) (v := ?_) rfl (by kernel_rfl) (by kernel_rfl) (by kernel_rfl) (fun _ _ _ h => h) (Or.inl ⟨by kernel_rfl, ?_⟩) ?_
              rotate_left
              · (intro w; go_simp; try with_reducible rfl)
              change wpAny _ _ _ _ _ _ (Act.put _ (some 99) _) _
              (try simp only [Act.put, List.setIfInBounds_toArray, List.set_cons_zero, List.set_cons_succ])
              refine wpAny_ready (rs := [5, 7, 10]) (by kernel_rfl) (by simp) ?_
              refine AllReady.cons rfl (fun K hK => ?_) ?_
              · go_simp
                (try (refine hK _ _ ?_; clear hK K))
                (try simp only [Act.put, List.setIfInBounds_toArray, List.set_cons_zero, List.set_cons_succ])
                refine wpAny_ready (rs := [7, 10]) (by kernel_rfl) (by simp) ?_
                refine AllReady.cons rfl (fun K hK => ?_) ?_
                · go_simp
                  (try (refine hK _ _ ?_; clear hK K))
                  (try simp only [Act.put, List.setIfInBounds_toArray, List.set_cons_zero, List.set_cons_succ])
                  refine wpAny_ready (rs := [8, 10]) (by kernel_rfl) (by simp) ?_
                  refine AllReady.cons rfl (fun K hK => ?_) ?_
                  · go_simp
                    (try (refine hK _ _ ?_; clear hK K))
                    (try simp only [Act.put, List.setIfInBounds_toArray, List.set_cons_zero, List.set_cons_succ])
                    refine wpAny_ready (rs := [10]) (by kernel_rfl) (by simp) ?_
                    refine AllReady.cons rfl (fun K hK => ?_) ?_
                    · go_simp
                      (try (refine hK _ _ ?_; clear hK K))
                      (try simp only [Act.put, List.setIfInBounds_toArray, List.set_cons_zero, List.set_cons_succ])
                      refine wpAny_ready (rs := [11]) (by kernel_rfl) (by simp) ?_
                      refine AllReady.cons rfl (fun K hK => ?_) ?_
                      · go_simp
                        (try (refine hK _ _ ?_; clear hK K))
                        (try simp only [Act.put, List.setIfInBounds_toArray, List.set_cons_zero, List.set_cons_succ])
                        refine wpAny_take (i := 14) (v := ?_) rfl (by kernel_rfl) (by kernel_rfl) (by kernel_rfl) (fun _ _ _ h => h) (Or.inl ⟨by kernel_rfl, ?_⟩) ?_
                        rotate_left
                        · (intro w; go_simp; try with_reducible rfl)
                        change wpAny _ _ _ _ _ _ (Act.put _ (some 100) _) _
                        (try simp only [Act.put, List.setIfInBounds_toArray, List.set_cons_zero, List.set_cons_succ])
                        refine wpAny_take (i := 15) (v := ?_) rfl (by kernel_rfl) (by kernel_rfl) (by kernel_rfl) (fun _ _ _ h => h) (Or.inl ⟨by kernel_rfl, ?_⟩) ?_
                        rotate_left
                        · (intro w; go_simp; try with_reducible rfl)
                        change wpAny _ _ _ _ _ _ (Act.put _ (some 101) _) _
                        (try simp only [Act.put, List.setIfInBounds_toArray, List.set_cons_zero, List.set_cons_succ])
                        refine wpAny_take (i := 16) (v := ?_) rfl (by kernel_rfl) (by kernel_rfl) (by kernel_rfl) (fun _ _ _ h => h) (Or.inl ⟨by kernel_rfl, ?_⟩) ?_
                        rotate_left
                        · (intro w; go_simp; try with_reducible rfl)
                        change wpAny _ _ _ _ _ _ (Act.put _ (some 102) _) _
                        (try simp only [Act.put, List.setIfInBounds_toArray, List.set_cons_zero, List.set_cons_succ])
                        refine wpAny_take (i := 17) (v := ?_) rfl (by kernel_rfl) (by kernel_rfl) (by kernel_rfl) (fun _ _ _ h => h) (Or.inl ⟨by kernel_rfl, ?_⟩) ?_
                        rotate_left
                        · (intro w; go_simp; try with_reducible rfl)
                        change wpAny _ _ _ _ _ _ (Act.put _ (some 103) _) _
                        (try simp only [Act.put, List.setIfInBounds_toArray, List.set_cons_zero, List.set_cons_succ])
                        refine wpAny_take (i := 18) (v := ?_) rfl (by kernel_rfl) (by kernel_rfl) (by kernel_rfl) (fun _ _ _ h => h) (Or.inl ⟨by kernel_rfl, ?_⟩) ?_
                        rotate_left
                        · (intro w; go_simp; try with_reducible rfl)
                        change wpAny _ _ _ _ _ _ (Act.put _ (some 6) _) _
                        (try simp only [Act.put, List.setIfInBounds_toArray, List.set_cons_zero, List.set_cons_succ])
                        refine wpAny_done (by kernel_rfl) ?_ _
                        (try simp only [Act.put, List.setIfInBounds_toArray, List.set_cons_zero, List.set_cons_succ])
                        go_wp2_with fail
                        go_ret
                        exact ⟨by first | rfl | (simp; done), hC'.out.below⟩
                      exact AllReady.nil
                    exact AllReady.nil
                  refine AllReady.cons rfl (fun K hK => ?_) ?_
                  · go_simp
                    (try (refine hK _ _ ?_; clear hK K))
                    (try simp only [Act.put, List.setIfInBounds_toArray, List.set_cons_zero, List.set_cons_succ])
                    refine wpAny_ready (rs := [8, 11]) (by kernel_rfl) (by simp) ?_
                    refine AllReady.cons rfl (fun K hK => ?_) ?_
                    · go_simp
                      (try (refine hK _ _ ?_; clear hK K))
                      (try simp only [Act.put, List.setIfInBounds_toArray, List.set_cons_zero, List.set_cons_succ])
                      refine wpAny_ready (rs := [11]) (by kernel_rfl) (by simp) ?_
                      refine AllReady.cons rfl (fun K hK => ?_) ?_
                      · go_simp
                        (try (refine hK _ _ ?_; clear hK K))
                        (try simp only [Act.put, List.setIfInBounds_toArray, List.set_cons_zero, List.set_cons_succ])
                        refine wpAny_take (i := 14) (v := ?_) rfl (by kernel_rfl) (by kernel_rfl) (by kernel_rfl) (fun _ _ _ h => h) (Or.inl ⟨by kernel_rfl, ?_⟩) ?_
                        rotate_left
                        · (intro w; go_simp; try with_reducible rfl)
                        change wpAny _ _ _ _ _ _ (Act.put _ (some 100) _) _
                        (try simp only [Act.put, List.setIfInBounds_toArray, List.set_cons_zero, List.set_cons_succ])
                        refine wpAny_take (i := 15) (v := ?_) rfl (by kernel_rfl) (by kernel_rfl) (by kernel_rfl) (fun _ _ _ h => h) (Or.inl ⟨by kernel_rfl, ?_⟩) ?_
                        rotate_left
                        · (intro w; go_simp; try with_reducible rfl)
                        change wpAny _ _ _ _ _ _ (Act.put _ (some 101) _) _
                        (try simp only [Act.put, List.setIfInBounds_toArray, List.set_cons_zero, List.set_cons_succ])
                        refine wpAny_take (i := 16) (v := ?_) rfl (by kernel_rfl) (by kernel_rfl) (by kernel_rfl) (fun _ _ _ h => h) (Or.inl ⟨by kernel_rfl, ?_⟩) ?_
                        rotate_left
                        · (intro w; go_simp; try with_reducible rfl)
                        change wpAny _ _ _ _ _ _ (Act.put _ (some 102) _) _
                        (try simp only [Act.put, List.setIfInBounds_toArray, List.set_cons_zero, List.set_cons_succ])
                        refine wpAny_take (i := 17) (v := ?_) rfl (by kernel_rfl) (by kernel_rfl) (by kernel_rfl) (fun _ _ _ h => h) (Or.inl ⟨by kernel_rfl, ?_⟩) ?_
                        rotate_left
                        · (intro w; go_simp; try with_reducible rfl)
                        change wpAny _ _ _ _ _ _ (Act.put _ (some 103) _) _
                        (try simp only [Act.put, List.setIfInBounds_toArray, List.set_cons_zero, List.set_cons_succ])
                        refine wpAny_take (i := 18) (v := ?_) rfl (by kernel_rfl) (by kernel_rfl) (by kernel_rfl) (fun _ _ _ h => h) (Or.inl ⟨by kernel_rfl, ?_⟩) ?_
                        rotate_left
                        · (intro w; go_simp; try with_reducible rfl)
                        change wpAny _ _ _ _ _ _ (Act.put _ (some 6) _) _
                        (try simp only [Act.put, List.setIfInBounds_toArray, List.set_cons_zero, List.set_cons_succ])
                        refine wpAny_done (by kernel_rfl) ?_ _
                        (try simp only [Act.put, List.setIfInBounds_toArray, List.set_cons_zero, List.set_cons_succ])
                        go_wp2_with fail
                        go_ret
                        exact ⟨by first | rfl | (simp; done), hC'.out.below⟩
                      exact AllReady.nil
                    refine AllReady.cons rfl (fun K hK => ?_) ?_
                    · go_simp
                      (try (refine hK _ _ ?_; clear hK K))
                      (try simp only [Act.put, List.setIfInBounds_toArray, List.set_cons_zero, List.set_cons_succ])
                      refine wpAny_take (i := 14) (v := ?_) rfl (by kernel_rfl) (by kernel_rfl) (by kernel_rfl) (fun _ _ _ h => h) (Or.inl ⟨by kernel_rfl, ?_⟩) ?_
                      rotate_left
                      · (intro w; go_simp; try with_reducible rfl)
                      change wpAny _ _ _ _ _ _ (Act.put _ (some 100) _) _
                      (try simp only [Act.put, List.setIfInBounds_toArray, List.set_cons_zero, List.set_cons_succ])
                      refine wpAny_ready (rs := [8]) (by kernel_rfl) (by simp) ?_
                      refine AllReady.cons rfl (fun K hK => ?_) ?_
                      · go_simp
                        (try (refine hK _ _ ?_; clear hK K))
                        (try simp only [Act.put, List.setIfInBounds_toArray, List.set_cons_zero, List.set_cons_succ])
                        refine wpAny_take (i := 15) (v := ?_) rfl (by kernel_rfl) (by kernel_rfl) (by kernel_rfl) (fun _ _ _ h => h) (Or.inl ⟨by kernel_rfl, ?_⟩) ?_
                        rotate_left
                        · (intro w; go_simp; try with_reducible rfl)
                        change wpAny _ _ _ _ _ _ (Act.put _ (some 101) _) _
                        (try simp only [Act.put, List.setIfInBounds_toArray, List.set_cons_zero, List.set_cons_succ])
                        refine wpAny_take (i := 16) (v := ?_) rfl (by kernel_rfl) (by kernel_rfl) (by kernel_rfl) (fun _ _ _ h => h) (Or.inl ⟨by kernel_rfl, ?_⟩) ?_
                        rotate_left
                        · (intro w; go_simp; try with_reducible rfl)
                        change wpAny _ _ _ _ _ _ (Act.put _ (some 102) _) _
                        (try simp only [Act.put, List.setIfInBounds_toArray, List.set_cons_zero, List.set_cons_succ])
                        refine wpAny_take (i := 17) (v := ?_) rfl (by kernel_rfl) (by kernel_rfl) (by kernel_rfl) (fun _ _ _ h => h) (Or.inl ⟨by kernel_rfl, ?_⟩) ?_
                        rotate_left
                        · (intro w; go_simp; try with_reducible rfl)
                        change wpAny _ _ _ _ _ _ (Act.put _ (some 103) _) _
                        (try simp only [Act.put, List.setIfInBounds_toArray, List.set_cons_zero, List.set_cons_succ])
                        refine wpAny_take (i := 18) (v := ?_) rfl (by kernel_rfl) (by kernel_rfl) (by kernel_rfl) (fun _ _ _ h => h) (Or.inl ⟨by kernel_rfl, ?_⟩) ?_
                        rotate_left
                        · (intro w; go_simp; try with_reducible rfl)
                        change wpAny _ _ _ _ _ _ (Act.put _ (some 6) _) _
                        (try simp only [Act.put, List.setIfInBounds_toArray, List.set_cons_zero, List.set_cons_succ])
                        refine wpAny_done (by kernel_rfl) ?_ _
                        (try simp only [Act.put, List.setIfInBounds_toArray, List.set_cons_zero, List.set_cons_succ])
                        go_wp2_with fail
                        go_ret
                        exact ⟨by first | rfl | (simp; done), hC'.out.below⟩
                      exact AllReady.nil
                    exact AllReady.nil
                  exact AllReady.nil
                refine AllReady.cons rfl (fun K hK => ?_) ?_
                · go_simp
                  (try (refine hK _ _ ?_; clear hK K))
                  (try simp only [Act.put, List.setIfInBounds_toArray, List.set_cons_zero, List.set_cons_succ])
                  refine wpAny_ready (rs := [7, 11]) (by kernel_rfl) (by simp) ?_
                  refine AllReady.cons rfl (fun K hK => ?_) ?_
                  · go_simp
                    (try (refine hK _ _ ?_; clear hK K))
                    (try simp only [Act.put, List.setIfInBounds_toArray, List.set_cons_zero, List.set_cons_succ])
                    refine wpAny_ready (rs := [8, 11]) (by kernel_rfl) (by simp) ?_
                    refine AllReady.cons rfl (fun K hK => ?_) ?_
                    · go_simp
                      (try (refine hK _ _ ?_; clear hK K))
                      (try simp only [Act.put, List.setIfInBounds_toArray, List.set_cons_zero, List.set_cons_succ])
                      refine wpAny_ready (rs := [11]) (by kernel_rfl) (by simp) ?_
                      refine AllReady.cons rfl (fun K hK => ?_) ?_
                      · go_simp
                        (try (refine hK _ _ ?_; clear hK K))
                        (try simp only [Act.put, List.setIfInBounds_toArray, List.set_cons_zero, List.set_cons_succ])
                        refine wpAny_take (i := 14) (v := ?_) rfl (by kernel_rfl) (by kernel_rfl) (by kernel_rfl) (fun _ _ _ h => h) (Or.inl ⟨by kernel_rfl, ?_⟩) ?_
                        rotate_left
                        · (intro w; go_simp; try with_reducible rfl)
                        change wpAny _ _ _ _ _ _ (Act.put _ (some 100) _) _
                        (try simp only [Act.put, List.setIfInBounds_toArray, List.set_cons_zero, List.set_cons_succ])
                        refine wpAny_take (i := 15) (v := ?_) rfl (by kernel_rfl) (by kernel_rfl) (by kernel_rfl) (fun _ _ _ h => h) (Or.inl ⟨by kernel_rfl, ?_⟩) ?_
                        rotate_left
                        · (intro w; go_simp; try with_reducible rfl)
                        change wpAny _ _ _ _ _ _ (Act.put _ (some 101) _) _
                        (try simp only [Act.put, List.setIfInBounds_toArray, List.set_cons_zero, List.set_cons_succ])
                        refine wpAny_take (i := 16) (v := ?_) rfl (by kernel_rfl) (by kernel_rfl) (by kernel_rfl) (fun _ _ _ h => h) (Or.inl ⟨by kernel_rfl, ?_⟩) ?_
                        rotate_left
                        · (intro w; go_simp; try with_reducible rfl)
                        change wpAny _ _ _ _ _ _ (Act.put _ (some 102) _) _
                        (try simp only [Act.put, List.setIfInBounds_toArray, List.set_cons_zero, List.set_cons_succ])
                        refine wpAny_take (i := 17) (v := ?_) rfl (by kernel_rfl) (by kernel_rfl) (by kernel_rfl) (fun _ _ _ h => h) (Or.inl ⟨by kernel_rfl, ?_⟩) ?_
                        rotate_left
                        · (intro w; go_simp; try with_reducible rfl)
                        change wpAny _ _ _ _ _ _ (Act.put _ (some 103) _) _
                        (try simp only [Act.put, List.setIfInBounds_toArray, List.set_cons_zero, List.set_cons_succ])
                        refine wpAny_take (i := 18) (v := ?_) rfl (by kernel_rfl) (by kernel_rfl) (by kernel_rfl) (fun _ _ _ h => h) (Or.inl ⟨by kernel_rfl, ?_⟩) ?_
                        rotate_left
                        · (intro w; go_simp; try with_reducible rfl)
                        change wpAny _ _ _ _ _ _ (Act.put _ (some 6) _) _
                        (try simp only [Act.put, List.setIfInBounds_toArray, List.set_cons_zero, List.set_cons_succ])
                        refine wpAny_done (by kernel_rfl) ?_ _
                        (try simp only [Act.put, List.setIfInBounds_toArray, List.set_cons_zero, List.set_cons_succ])
                        go_wp2_with fail
                        go_ret
                        exact ⟨by first | rfl | (simp; done), hC'.out.below⟩
                      exact AllReady.nil
                    refine AllReady.cons rfl (fun K hK => ?_) ?_
                    · go_simp
                      (try (refine hK _ _ ?_; clear hK K))
                      (try simp only [Act.put, List.setIfInBounds_toArray, List.set_cons_zero, List.set_cons_succ])
                      refine wpAny_take (i := 14) (v := ?_) rfl (by kernel_rfl) (by kernel_rfl) (by kernel_rfl) (fun _ _ _ h => h) (Or.inl ⟨by kernel_rfl, ?_⟩) ?_
                      rotate_left
                      · (intro w; go_simp; try with_reducible rfl)
                      change wpAny _ _ _ _ _ _ (Act.put _ (some 100) _) _
                      (try simp only [Act.put, List.setIfInBounds_toArray, List.set_cons_zero, List.set_cons_succ])
                      refine wpAny_ready (rs := [8]) (by kernel_rfl) (by simp) ?_
                      refine AllReady.cons rfl (fun K hK => ?_) ?_
                      · go_simp
                        (try (refine hK _ _ ?_; clear hK K))
                        (try simp only [Act.put, List.setIfInBounds_toArray, List.set_cons_zero, List.set_cons_succ])
                        refine wpAny_take (i := 15) (v := ?_) rfl (by kernel_rfl) (by kernel_rfl) (by kernel_rfl) (fun _ _ _ h => h) (Or.inl ⟨by kernel_rfl, ?_⟩) ?_
                        rotate_left
                        · (intro w; go_simp; try with_reducible rfl)
                        change wpAny _ _ _ _ _ _ (Act.put _ (some 101) _) _
                        (try simp only [Act.put, List.setIfInBounds_toArray, List.set_cons_zero, List.set_cons_succ])
                        refine wpAny_take (i := 16) (v := ?_) rfl (by kernel_rfl) (by kernel_rfl) (by kernel_rfl) (fun _ _ _ h => h) (Or.inl ⟨by kernel_rfl, ?_⟩) ?_
                        rotate_left
                        · (intro w; go_simp; try with_reducible rfl)
                        change wpAny _ _ _ _ _ _ (Act.put _ (some 102) _) _
                        (try simp only [Act.put, List.setIfInBounds_toArray, List.set_cons_zero, List.set_cons_succ])
                        refine wpAny_take (i := 17) (v := ?_) rfl (by kernel_rfl) (by kernel_rfl) (by kernel_rfl) (fun _ _ _ h => h) (Or.inl ⟨by kernel_rfl, ?_⟩) ?_
                        rotate_left
                        · (intro w; go_simp; try with_reducible rfl)
                        change wpAny _ _ _ _ _ _ (Act.put _ (some 103) _) _
                        (try simp only [Act.put, List.setIfInBounds_toArray, List.set_cons_zero, List.set_cons_succ])
                        refine wpAny_take (i := 18) (v := ?_) rfl (by kernel_rfl) (by kernel_rfl) (by kernel_rfl) (fun _ _ _ h => h) (Or.inl ⟨by kernel_rfl, ?_⟩) ?_
                        rotate_left
                        · (intro w; go_simp; try with_reducible rfl)
                        change wpAny _ _ _ _ _ _ (Act.put _ (some 6) _) _
                        (try simp only [Act.put, List.setIfInBounds_toArray, List.set_cons_zero, List.set_cons_succ])
                        refine wpAny_done (by kernel_rfl) ?_ _
                        (try simp only [Act.put, List.setIfInBounds_toArray, List.set_cons_zero, List.set_cons_succ])
                        go_wp2_with fail
                        go_ret
                        exact ⟨by first | rfl | (simp; done), hC'.out.below⟩
                      exact AllReady.nil
                    exact AllReady.nil
                  refine AllReady.cons rfl (fun K hK => ?_) ?_
                  · go_simp
                    (try (refine hK _ _ ?_; clear hK K))
                    (try simp only [Act.put, List.setIfInBounds_toArray, List.set_cons_zero, List.set_cons_succ])
                    refine wpAny_take (i := 14) (v := ?_) rfl (by kernel_rfl) (by kernel_rfl) (by kernel_rfl) (fun _ _ _ h => h) (Or.inl ⟨by kernel_rfl, ?_⟩) ?_
                    rotate_left
                    · (intro w; go_simp; try with_reducible rfl)
                    change wpAny _ _ _ _ _ _ (Act.put _ (some 100) _) _
                    (try simp only [Act.put, List.setIfInBounds_toArray, List.set_cons_zero, List.set_cons_succ])
                    refine wpAny_ready (rs := [7]) (by kernel_rfl) (by simp) ?_
                    refine AllReady.cons rfl (fun K hK => ?_) ?_
                    · go_simp
                      (try (refine hK _ _ ?_; clear hK K))
                      (try simp only [Act.put, List.setIfInBounds_toArray, List.set_cons_zero, List.set_cons_succ])
                      refine wpAny_ready (rs := [8]) (by kernel_rfl) (by simp) ?_
                      refine AllReady.cons rfl (fun K hK => ?_) ?_
                      · go_simp
                        (try (refine hK _ _ ?_; clear hK K))
                        (try simp only [Act.put, List.setIfInBounds_toArray, List.set_cons_zero, List.set_cons_succ])
                        refine wpAny_take (i := 15) (v := ?_) rfl (by kernel_rfl) (by kernel_rfl) (by kernel_rfl) (fun _ _ _ h => h) (Or.inl ⟨by kernel_rfl, ?_⟩) ?_
                        rotate_left
                        · (intro w; go_simp; try with_reducible rfl)
                        change wpAny _ _ _ _ _ _ (Act.put _ (some 101) _) _
                        (try simp only [Act.put, List.setIfInBounds_toArray, List.set_cons_zero, List.set_cons_succ])
                        refine wpAny_take (i := 16) (v := ?_) rfl (by kernel_rfl) (by kernel_rfl) (by kernel_rfl) (fun _ _ _ h => h) (Or.inl ⟨by kernel_rfl, ?_⟩) ?_
                        rotate_left
                        · (intro w; go_simp; try with_reducible rfl)
                        change wpAny _ _ _ _ _ _ (Act.put _ (some 102) _) _
                        (try simp only [Act.put, List.setIfInBounds_toArray, List.set_cons_zero, List.set_cons_succ])
                        refine wpAny_take (i := 17) (v := ?_) rfl (by kernel_rfl) (by kernel_rfl) (by kernel_rfl) (fun _ _ _ h => h) (Or.inl ⟨by kernel_rfl, ?_⟩) ?_
                        rotate_left
                        · (intro w; go_simp; try with_reducible rfl)
                        change wpAny _ _ _ _ _ _ (Act.put _ (some 103) _) _
                        (try simp only [Act.put, List.setIfInBounds_toArray, List.set_cons_zero, List.set_cons_succ])
                        refine wpAny_take (i := 18) (v := ?_) rfl (by kernel_rfl) (by kernel_rfl) (by kernel_rfl) (fun _ _ _ h => h) (Or.inl ⟨by kernel_rfl, ?_⟩) ?_
                        rotate_left
                        · (intro w; go_simp; try with_reducible rfl)
                        change wpAny _ _ _ _ _ _ (Act.put _ (some 6) _) _
                        (try simp only [Act.put, List.setIfInBounds_toArray, List.set_cons_zero, List.set_cons_succ])
                        refine wpAny_done (by kernel_rfl) ?_ _
                        (try simp only [Act.put, List.setIfInBounds_toArray, List.set_cons_zero, List.set_cons_succ])
                        go_wp2_with fail
                        go_ret
                        exact ⟨by first | rfl | (simp; done), hC'.out.below⟩
                      exact AllReady.nil
                    exact AllReady.nil
                  exact AllReady.nil
                exact AllReady.nil
              refine AllReady.cons rfl (fun K hK => ?_) ?_
              · go_simp
                (try (refine hK _ _ ?_; clear hK K))
                (try simp only [Act.put, List.setIfInBounds_toArray, List.set_cons_zero, List.set_cons_succ])
                refine wpAny_ready (rs := [5, 8, 10]) (by kernel_rfl) (by simp) ?_
                refine AllReady.cons rfl (fun K hK => ?_) ?_
                · go_simp
                  (try (refine hK _ _ ?_; clear hK K))
                  (try simp only [Act.put, List.setIfInBounds_toArray, List.set_cons_zero, List.set_cons_succ])
                  refine wpAny_ready (rs := [8, 10]) (by kernel_rfl) (by simp) ?_
                  refine AllReady.cons rfl (fun K hK => ?_) ?_
                  · go_simp
                    (try (refine hK _ _ ?_; clear hK K))
                    (try simp only [Act.put, List.setIfInBounds_toArray, List.set_cons_zero, List.set_cons_succ])
                    refine wpAny_ready (rs := [10]) (by kernel_rfl) (by simp) ?_
                    refine AllReady.cons rfl (fun K hK => ?_) ?_
                    · go_simp
                      (try (refine hK _ _ ?_; clear hK K))
                      (try simp only [Act.put, List.setIfInBounds_toArray, List.set_cons_zero, List.set_cons_succ])
                      refine wpAny_ready (rs := [11]) (by kernel_rfl) (by simp) ?_
                      refine AllReady.cons rfl (fun K hK => ?_) ?_
                      · go_simp
                        (try (refine hK _ _ ?_; clear hK K))
                        (try simp only [Act.put, List.setIfInBounds_toArray, List.set_cons_zero, List.set_cons_succ])
                        refine wpAny_take (i := 14) (v := ?_) rfl (by kernel_rfl) (by kernel_rfl) (by kernel_rfl) (fun _ _ _ h => h) (Or.inl ⟨by kernel_rfl, ?_⟩) ?_
                        rotate_left
                        · (intro w; go_simp; try with_reducible rfl)
                        change wpAny _ _ _ _ _ _ (Act.put _ (some 100) _) _
                        (try simp only [Act.put, List.setIfInBounds_toArray, List.set_cons_zero, List.set_cons_succ])
                        refine wpAny_take (i := 15) (v := ?_) rfl (by kernel_rfl) (by kernel_rfl) (by kernel_rfl) (fun _ _ _ h => h) (Or.inl ⟨by kernel_rfl, ?_⟩) ?_
                        rotate_left
                        · (intro w; go_simp; try with_reducible rfl)
                        change wpAny _ _ _ _ _ _ (Act.put _ (some 101) _) _
                        (try simp only [Act.put, List.setIfInBounds_toArray, List.set_cons_zero, List.set_cons_succ])
                        refine wpAny_take (i := 16) (v := ?_) rfl (by kernel_rfl) (by kernel_rfl) (by kernel_rfl) (fun _ _ _ h => h) (Or.inl ⟨by kernel_rfl, ?_⟩) ?_
                        rotate_left
                        · (intro w; go_simp; try with_reducible rfl)
                        change wpAny _ _ _ _ _ _ (Act.put _ (some 102) _) _
                        (try simp only [Act.put, List.setIfInBounds_toArray, List.set_cons_zero, List.set_cons_succ])
                        refine wpAny_take (i := 17) (v := ?_) rfl (by kernel_rfl) (by kernel_rfl) (by kernel_rfl) (fun _ _ _ h => h) (Or.inl ⟨by kernel_rfl, ?_⟩) ?_
                        rotate_left
                        · (intro w; go_simp; try with_reducible rfl)
                        change wpAny _ _ _ _ _ _ (Act.put _ (some 103) _) _
                        (try simp only [Act.put, List.setIfInBounds_toArray, List.set_cons_zero, List.set_cons_succ])
                        refine wpAny_take (i := 18) (v := ?_) rfl (by kernel_rfl) (by kernel_rfl) (by kernel_rfl) (fun _ _ _ h => h) (Or.inl ⟨by kernel_rfl, ?_⟩) ?_
                        rotate_left
                        · (intro w; go_simp; try with_reducible rfl)
                        change wpAny _ _ _ _ _ _ (Act.put _ (some 6) _) _
                        (try simp only [Act.put, List.setIfInBounds_toArray, List.set_cons_zero, List.set_cons_succ])
                        refine wpAny_done (by kernel_rfl) ?_ _
                        (try simp only [Act.put, List.setIfInBounds_toArray, List.set_cons_zero, List.set_cons_succ])
                        go_wp2_with fail
                        go_ret
                        exact ⟨by first | rfl | (simp; done), hC'.out.below⟩
                      exact AllReady.nil
                    exact AllReady.nil
                  refine AllReady.cons rfl (fun K hK => ?_) ?_
                  · go_simp
                    (try (refine hK _ _ ?_; clear hK K))
                    (try simp only [Act.put, List.setIfInBounds_toArray, List.set_cons_zero, List.set_cons_succ])
                    refine wpAny_ready (rs := [8, 11]) (by kernel_rfl) (by simp) ?_
                    refine AllReady.cons rfl (fun K hK => ?_) ?_
                    · go_simp
                      (try (refine hK _ _ ?_; clear hK K))
                      (try simp only [Act.put, List.setIfInBounds_toArray, List.set_cons_zero, List.set_cons_succ])
                      refine wpAny_ready (rs := [11]) (by kernel_rfl) (by simp) ?_
                      refine AllReady.cons rfl (fun K hK => ?_) ?_
                      · go_simp
                        (try (refine hK _ _ ?_; clear hK K))
                        (try simp only [Act.put, List.setIfInBounds_toArray, List.set_cons_zero, List.set_cons_succ])
                        refine wpAny_take (i := 14) (v := ?_) rfl (by kernel_rfl) (by kernel_rfl) (by kernel_rfl) (fun _ _ _ h => h) (Or.inl ⟨by kernel_rfl, ?_⟩) ?_
                        rotate_left
                        · (intro w; go_simp; try with_reducible rfl)
                        change wpAny _ _ _ _ _ _ (Act.put _ (some 100) _) _
                        (try simp only [Act.put, List.setIfInBounds_toArray, List.set_cons_zero, List.set_cons_succ])
                        refine wpAny_take (i := 15) (v := ?_) rfl (by kernel_rfl) (by kernel_rfl) (by kernel_rfl) (fun _ _ _ h => h) (Or.inl ⟨by kernel_rfl, ?_⟩) ?_
                        rotate_left
                        · (intro w; go_simp; try with_reducible rfl)
                        change wpAny _ _ _ _ _ _ (Act.put _ (some 101) _) _
                        (try simp only [Act.put, List.setIfInBounds_toArray, List.set_cons_zero, List.set_cons_succ])
                        refine wpAny_take (i := 16) (v := ?_) rfl (by kernel_rfl) (by kernel_rfl) (by kernel_rfl) (fun _ _ _ h => h) (Or.inl ⟨by kernel_rfl, ?_⟩) ?_
                        rotate_left
                        · (intro w; go_simp; try with_reducible rfl)
                        change wpAny _ _ _ _ _ _ (Act.put _ (some 102) _) _
                        (try simp only [Act.put, List.setIfInBounds_toArray, List.set_cons_zero, List.set_cons_succ])
                        refine wpAny_take (i := 17) (v := ?_) rfl (by kernel_rfl) (by kernel_rfl) (by kernel_rfl) (fun _ _ _ h => h) (Or.inl ⟨by kernel_rfl, ?_⟩) ?_
                        rotate_left
                        · (intro w; go_simp; try with_reducible rfl)
                        change wpAny _ _ _ _ _ _ (Act.put _ (some 103) _) _
                        (try simp only [Act.put, List.setIfInBounds_toArray, List.set_cons_zero, List.set_cons_succ])
                        refine wpAny_take (i := 18) (v := ?_) rfl (by kernel_rfl) (by kernel_rfl) (by kernel_rfl) (fun _ _ _ h => h) (Or.inl ⟨by kernel_rfl, ?_⟩) ?_
                        rotate_left
                        · (intro w; go_simp; try with_reducible rfl)
                        change wpAny _ _ _ _ _ _ (Act.put _ (some 6) _) _
                        (try simp only [Act.put, List.setIfInBounds_toArray, List.set_cons_zero, List.set_cons_succ])
                        refine wpAny_done (by kernel_rfl) ?_ _
                        (try simp only [Act.put, List.setIfInBounds_toArray, List.set_cons_zero, List.set_cons_succ])
                        go_wp2_with fail
                        go_ret
                        exact ⟨by first | rfl | (simp; done), hC'.out.below⟩
                      exact AllReady.nil
                    refine AllReady.cons rfl (fun K hK => ?_) ?_
                    · go_simp
                      (try (refine hK _ _ ?_; clear hK K))
                      (try simp only [Act.put, List.setIfInBounds_toArray, List.set_cons_zero, List.set_cons_succ])
                      refine wpAny_take (i := 14) (v := ?_) rfl (by kernel_rfl) (by kernel_rfl) (by kernel_rfl) (fun _ _ _ h => h) (Or.inl ⟨by kernel_rfl, ?_⟩) ?_
                      rotate_left
                      · (intro w; go_simp; try with_reducible rfl)
                      change wpAny _ _ _ _ _ _ (Act.put _ (some 100) _) _
                      (try simp only [Act.put, List.setIfInBounds_toArray, List.set_cons_zero, List.set_cons_succ])
                      refine wpAny_ready (rs := [8]) (by kernel_rfl) (by simp) ?_
                      refine AllReady.cons rfl (fun K hK => ?_) ?_
                      · go_simp
                        (try (refine hK _ _ ?_; clear hK K))
                        (try simp only [Act.put, List.setIfInBounds_toArray, List.set_cons_zero, List.set_cons_succ])
                        refine wpAny_take (i := 15) (v := ?_) rfl (by kernel_rfl) (by kernel_rfl) (by kernel_rfl) (fun _ _ _ h => h) (Or.inl ⟨by kernel_rfl, ?_⟩) ?_
                        rotate_left
                        · (intro w; go_simp; try with_reducible rfl)
                        change wpAny _ _ _ _ _ _ (Act.put _ (some 101) _) _
                        (try simp only [Act.put, List.setIfInBounds_toArray, List.set_cons_zero, List.set_cons_succ])
                        refine wpAny_take (i := 16) (v := ?_) rfl (by kernel_rfl) (by kernel_rfl) (by kernel_rfl) (fun _ _ _ h => h) (Or.inl ⟨by kernel_rfl, ?_⟩) ?_
                        rotate_left
                        · (intro w; go_simp; try with_reducible rfl)
                        change wpAny _ _ _ _ _ _ (Act.put _ (some 102) _) _
                        (try simp only [Act.put, List.setIfInBounds_toArray, List.set_cons_zero, List.set_cons_succ])
                        refine wpAny_take (i := 17) (v := ?_) rfl (by kernel_rfl) (by kernel_rfl) (by kernel_rfl) (fun _ _ _ h => h) (Or.inl ⟨by kernel_rfl, ?_⟩) ?_
                        rotate_left
                        · (intro w; go_simp; try with_reducible rfl)
                        change wpAny _ _ _ _ _ _ (Act.put _ (some 103) _) _
                        (try simp only [Act.put, List.setIfInBounds_toArray, List.set_cons_zero, List.set_cons_succ])
                        refine wpAny_take (i := 18) (v := ?_) rfl (by kernel_rfl) (by kernel_rfl) (by kernel_rfl) (fun _ _ _ h => h) (Or.inl ⟨by kernel_rfl, ?_⟩) ?_
                        rotate_left
                        · (intro w; go_simp; try with_reducible rfl)
                        change wpAny _ _ _ _ _ _ (Act.put _ (some 6) _) _
                        (try simp only [Act.put, List.setIfInBounds_toArray, List.set_cons_zero, List.set_cons_succ])
                        refine wpAny_done (by kernel_rfl) ?_ _
                        (try simp only [Act.put, List.setIfInBounds_toArray, List.set_cons_zero, List.set_cons_succ])
                        go_wp2_with fail
                        go_ret
                        exact ⟨by first | rfl | (simp; done), hC'.out.below⟩
                      exact AllReady.nil
                    exact AllReady.nil
                  exact AllReady.nil
                refine AllReady.cons rfl (fun K hK => ?_) ?_
                · go_simp
                  (try (refine hK _ _ ?_; clear hK K))
                  (try simp only [Act.put, List.setIfInBounds_toArray, List.set_cons_zero, List.set_cons_succ])
                  refine wpAny_ready (rs := [5, 10]) (by kernel_rfl) (by simp) ?_
                  refine AllReady.cons rfl (fun K hK => ?_) ?_
                  · go_simp
                    (try (refine hK _ _ ?_; clear hK K))
                    (try simp only [Act.put, List.setIfInBounds_toArray, List.set_cons_zero, List.set_cons_succ])
                    refine wpAny_ready (rs := [10]) (by kernel_rfl) (by simp) ?_
                    refine AllReady.cons rfl (fun K hK => ?_) ?_
                    · go_simp
                      (try (refine hK _ _ ?_; clear hK K))
                      (try simp only [Act.put, List.setIfInBounds_toArray, List.set_cons_zero, List.set_cons_succ])
                      refine wpAny_ready (rs := [11]) (by kernel_rfl) (by simp) ?_
                      refine AllReady.cons rfl (fun K hK => ?_) ?_
                      · go_simp
                        (try (refine hK _ _ ?_; clear hK K))
                        (try simp only [Act.put, List.setIfInBounds_toArray, List.set_cons_zero, List.set_cons_succ])
                        refine wpAny_take (i := 14) (v := ?_) rfl (by kernel_rfl) (by kernel_rfl) (by kernel_rfl) (fun _ _ _ h => h) (Or.inl ⟨by kernel_rfl, ?_⟩) ?_
                        rotate_left
                        · (intro w; go_simp; try with_reducible rfl)
                        change wpAny _ _ _ _ _ _ (Act.put _ (some 100) _) _
                        (try simp only [Act.put, List.setIfInBounds_toArray, List.set_cons_zero, List.set_cons_succ])
                        refine wpAny_take (i := 15) (v := ?_) rfl (by kernel_rfl) (by kernel_rfl) (by kernel_rfl) (fun _ _ _ h => h) (Or.inl ⟨by kernel_rfl, ?_⟩) ?_
                        rotate_left
                        · (intro w; go_simp; try with_reducible rfl)
                        change wpAny _ _ _ _ _ _ (Act.put _ (some 101) _) _
                        (try simp only [Act.put, List.setIfInBounds_toArray, List.set_cons_zero, List.set_cons_succ])
                        refine wpAny_take (i := 16) (v := ?_) rfl (by kernel_rfl) (by kernel_rfl) (by kernel_rfl) (fun _ _ _ h => h) (Or.inl ⟨by kernel_rfl, ?_⟩) ?_
                        rotate_left
                        · (intro w; go_simp; try with_reducible rfl)
                        change wpAny _ _ _ _ _ _ (Act.put _ (some 102) _) _
                        (try simp only [Act.put, List.setIfInBounds_toArray, List.set_cons_zero, List.set_cons_succ])
                        refine wpAny_take (i := 17) (v := ?_) rfl (by kernel_rfl) (by kernel_rfl) (by kernel_rfl) (fun _ _ _ h => h) (Or.inl ⟨by kernel_rfl, ?_⟩) ?_
                        rotate_left
                        · (intro w; go_simp; try with_reducible rfl)
                        change wpAny _ _ _ _ _ _ (Act.put _ (some 103) _) _
                        (try simp only [Act.put, List.setIfInBounds_toArray, List.set_cons_zero, List.set_cons_succ])
                        refine wpAny_take (i := 18) (v := ?_) rfl (by kernel_rfl) (by kernel_rfl) (by kernel_rfl) (fun _ _ _ h => h) (Or.inl ⟨by kernel_rfl, ?_⟩) ?_
                        rotate_left
                        · (intro w; go_simp; try with_reducible rfl)
                        change wpAny _ _ _ _ _ _ (Act.put _ (some 6) _) _
                        (try simp only [Act.put, List.setIfInBounds_toArray, List.set_cons_zero, List.set_cons_succ])
                        refine wpAny_done (by kernel_rfl) ?_ _
                        (try simp only [Act.put, List.setIfInBounds_toArray, List.set_cons_zero, List.set_cons_succ])
                        go_wp2_with fail
                        go_ret
                        exact ⟨by first | rfl | (simp; done), hC'.out.below⟩
                      exact AllReady.nil
                    exact AllReady.nil
                  refine AllReady.cons rfl (fun K hK => ?_) ?_
                  · go_simp
                    (try (refine hK _ _ ?_; clear hK K))
                    (try simp only [Act.put, List.setIfInBounds_toArray, List.set_cons_zero, List.set_cons_succ])
                    refine wpAny_ready (rs := [5, 11]) (by kernel_rfl) (by simp) ?_
                    refine AllReady.cons rfl (fun K hK => ?_) ?_
                    · go_simp
                      (try (refine hK _ _ ?_; clear hK K))
                      (try simp only [Act.put, List.setIfInBounds_toArray, List.set_cons_zero, List.set_cons_succ])
                      refine wpAny_ready (rs := [11]) (by kernel_rfl) (by simp) ?_
                      refine AllReady.cons rfl (fun K hK => ?_) ?_
                      · go_simp
                        (try (refine hK _ _ ?_; clear hK K))
                        (try simp only [Act.put, List.setIfInBounds_toArray, List.set_cons_zero, List.set_cons_succ])
                        refine wpAny_take (i := 14) (v := ?_) rfl (by kernel_rfl) (by kernel_rfl) (by kernel_rfl) (fun _ _ _ h => h) (Or.inl ⟨by kernel_rfl, ?_⟩) ?_
                        rotate_left
                        · (intro w; go_simp; try with_reducible rfl)
                        change wpAny _ _ _ _ _ _ (Act.put _ (some 100) _) _
                        (try simp only [Act.put, List.setIfInBounds_toArray, List.set_cons_zero, List.set_cons_succ])
                        refine wpAny_take (i := 15) (v := ?_) rfl (by kernel_rfl) (by kernel_rfl) (by kernel_rfl) (fun _ _ _ h => h) (Or.inl ⟨by kernel_rfl, ?_⟩) ?_
                        rotate_left
                        · (intro w; go_simp; try with_reducible rfl)
                        change wpAny _ _ _ _ _ _ (Act.put _ (some 101) _) _
                        (try simp only [Act.put, List.setIfInBounds_toArray, List.set_cons_zero, List.set_cons_succ])
                        refine wpAny_take (i := 16) (v := ?_) rfl (by kernel_rfl) (by kernel_rfl) (by kernel_rfl) (fun _ _ _ h => h) (Or.inl ⟨by kernel_rfl, ?_⟩) ?_
                        rotate_left
                        · (intro w; go_simp; try with_reducible rfl)
                        change wpAny _ _ _ _ _ _ (Act.put _ (some 102) _) _
                        (try simp only [Act.put, List.setIfInBounds_toArray, List.set_cons_zero, List.set_cons_succ])
                        refine wpAny_take (i := 17) (v := ?_) rfl (by kernel_rfl) (by kernel_rfl) (by kernel_rfl) (fun _ _ _ h => h) (Or.inl ⟨by kernel_rfl, ?_⟩) ?_
                        rotate_left
                        · (intro w; go_simp; try with_reducible rfl)
                        change wpAny _ _ _ _ _ _ (Act.put _ (some 103) _) _
                        (try simp only [Act.put, List.setIfInBounds_toArray, List.set_cons_zero, List.set_cons_succ])
                        refine wpAny_take (i := 18) (v := ?_) rfl (by kernel_rfl) (by kernel_rfl) (by kernel_rfl) (fun _ _ _ h => h) (Or.inl ⟨by kernel_rfl, ?_⟩) ?_
                        rotate_left
                        · (intro w; go_simp; try with_reducible rfl)
                        change wpAny _ _ _ _ _ _ (Act.put _ (some 6) _) _
                        (try simp only [Act.put, List.setIfInBounds_toArray, List.set_cons_zero, List.set_cons_succ])
                        refine wpAny_done (by kernel_rfl) ?_ _
                        (try simp only [Act.put, List.setIfInBounds_toArray, List.set_cons_zero, List.set_cons_succ])
                        go_wp2_with fail
                        go_ret
                        exact ⟨by first | rfl | (simp; done), hC'.out.below⟩
                      exact AllReady.nil
                    refine AllReady.cons rfl (fun K hK => ?_) ?_
                    · go_simp
                      (try (refine hK _ _ ?_; clear hK K))
                      (try simp only [Act.put, List.setIfInBounds_toArray, List.set_cons_zero, List.set_cons_succ])
                      refine wpAny_take (i := 14) (v := ?_) rfl (by kernel_rfl) (by kernel_rfl) (by kernel_rfl) (fun _ _ _ h => h) (Or.inl ⟨by kernel_rfl, ?_⟩) ?_
                      rotate_left
                      · (intro w; go_simp; try with_reducible rfl)
                      change wpAny _ _ _ _ _ _ (Act.put _ (some 100) _) _
                      (try simp only [Act.put, List.setIfInBounds_toArray, List.set_cons_zero, List.set_cons_succ])
                      refine wpAny_take (i := 15) (v := ?_) rfl (by kernel_rfl) (by kernel_rfl) (by kernel_rfl) (fun _ _ _ h => h) (Or.inl ⟨by kernel_rfl, ?_⟩) ?_
                      rotate_left
                      · (intro w; go_simp; try with_reducible rfl)
                      change wpAny _ _ _ _ _ _ (Act.put _ (some 101) _) _
                      (try simp only [Act.put, List.setIfInBounds_toArray, List.set_cons_zero, List.set_cons_succ])
                      refine wpAny_ready (rs := [5]) (by kernel_rfl) (by simp) ?_
                      refine AllReady.cons rfl (fun K hK => ?_) ?_
                      · go_simp
                        (try (refine hK _ _ ?_; clear hK K))
                        (try simp only [Act.put, List.setIfInBounds_toArray, List.set_cons_zero, List.set_cons_succ])
                        refine wpAny_take (i := 16) (v := ?_) rfl (by kernel_rfl) (by kernel_rfl) (by kernel_rfl) (fun _ _ _ h => h) (Or.inl ⟨by kernel_rfl, ?_⟩) ?_
                        rotate_left
                        · (intro w; go_simp; try with_reducible rfl)
                        change wpAny _ _ _ _ _ _ (Act.put _ (some 102) _) _
                        (try simp only [Act.put, List.setIfInBounds_toArray, List.set_cons_zero, List.set_cons_succ])
                        refine wpAny_take (i := 17) (v := ?_) rfl (by kernel_rfl) (by kernel_rfl) (by kernel_rfl) (fun _ _ _ h => h) (Or.inl ⟨by kernel_rfl, ?_⟩) ?_
                        rotate_left
                        · (intro w; go_simp; try with_reducible rfl)
                        change wpAny _ _ _ _ _ _ (Act.put _ (some 103) _) _
                        (try simp only [Act.put, List.setIfInBounds_toArray, List.set_cons_zero, List.set_cons_succ])
                        refine wpAny_take (i := 18) (v := ?_) rfl (by kernel_rfl) (by kernel_rfl) (by kernel_rfl) (fun _ _ _ h => h) (Or.inl ⟨by kernel_rfl, ?_⟩) ?_
                        rotate_left
                        · (intro w; go_simp; try with_reducible rfl)
                        change wpAny _ _ _ _ _ _ (Act.put _ (some 6) _) _
                        (try simp only [Act.put, List.setIfInBounds_toArray, List.set_cons_zero, List.set_cons_succ])
                        refine wpAny_done (by kernel_rfl) ?_ _
                        (try simp only [Act.put, List.setIfInBounds_toArray, List.set_cons_zero, List.set_cons_succ])
                        go_wp2_with fail
                        go_ret
                        exact ⟨by first | rfl | (simp; done), hC'.out.below⟩
                      exact AllReady.nil
                    exact AllReady.nil
                  exact AllReady.nil
                refine AllReady.cons rfl (fun K hK => ?_) ?_
                · go_simp
                  (try (refine hK _ _ ?_; clear hK K))
                  (try simp only [Act.put, List.setIfInBounds_toArray, List.set_cons_zero, List.set_cons_succ])
                  refine wpAny_ready (rs := [5, 8, 11]) (by kernel_rfl) (by simp) ?_
                  refine AllReady.cons rfl (fun K hK => ?_) ?_
                  · go_simp
                    (try (refine hK _ _ ?_; clear hK K))
                    (try simp only [Act.put, List.setIfInBounds_toArray, List.set_cons_zero, List.set_cons_succ])
                    refine wpAny_ready (rs := [8, 11]) (by kernel_rfl) (by simp) ?_
                    refine AllReady.cons rfl (fun K hK => ?_) ?_
                    · go_simp
                      (try (refine hK _ _ ?_; clear hK K))
                      (try simp only [Act.put, List.setIfInBounds_toArray, List.set_cons_zero, List.set_cons_succ])
                      refine wpAny_ready (rs := [11]) (by kernel_rfl) (by simp) ?_
                      refine AllReady.cons rfl (fun K hK => ?_) ?_
                      · go_simp
                        (try (refine hK _ _ ?_; clear hK K))
                        (try simp only [Act.put, List.setIfInBounds_toArray, List.set_cons_zero, List.set_cons_succ])
                        refine wpAny_take (i := 14) (v := ?_) rfl (by kernel_rfl) (by kernel_rfl) (by kernel_rfl) (fun _ _ _ h => h) (Or.inl ⟨by kernel_rfl, ?_⟩) ?_
                        rotate_left
                        · (intro w; go_simp; try with_reducible rfl)
                        change wpAny _ _ _ _ _ _ (Act.put _ (some 100) _) _
                        (try simp only [Act.put, List.setIfInBounds_toArray, List.set_cons_zero, List.set_cons_succ])
                        refine wpAny_take (i := 15) (v := ?_) rfl (by kernel_rfl) (by kernel_rfl) (by kernel_rfl) (fun _ _ _ h => h) (Or.inl ⟨by kernel_rfl, ?_⟩) ?_
                        rotate_left
                        · (intro w; go_simp; try with_reducible rfl)
                        change wpAny _ _ _ _ _ _ (Act.put _ (some 101) _) _
                        (try simp only [Act.put, List.setIfInBounds_toArray, List.set_cons_zero, List.set_cons_succ])
                        refine wpAny_take (i := 16) (v := ?_) rfl (by kernel_rfl) (by kernel_rfl) (by kernel_rfl) (fun _ _ _ h => h) (Or.inl ⟨by kernel_rfl, ?_⟩) ?_
                        rotate_left
                        · (intro w; go_simp; try with_reducible rfl)
                        change wpAny _ _ _ _ _ _ (Act.put _ (some 102) _) _
                        (try simp only [Act.put, List.setIfInBounds_toArray, List.set_cons_zero, List.set_cons_succ])
                        refine wpAny_take (i := 17) (v := ?_) rfl (by kernel_rfl) (by kernel_rfl) (by kernel_rfl) (fun _ _ _ h => h) (Or.inl ⟨by kernel_rfl, ?_⟩) ?_
                        rotate_left
                        · (intro w; go_simp; try with_reducible rfl)
                        change wpAny _ _ _ _ _ _ (Act.put _ (some 103) _) _
                        (try simp only [Act.put, List.setIfInBounds_toArray, List.set_cons_zero, List.set_cons_succ])
                        refine wpAny_take (i := 18) (v := ?_) rfl (by kernel_rfl) (by kernel_rfl) (by kernel_rfl) (fun _ _ _ h => h) (Or.inl ⟨by kernel_rfl, ?_⟩) ?_
                        rotate_left
                        · (intro w; go_simp; try with_reducible rfl)
                        change wpAny _ _ _ _ _ _ (Act.put _ (some 6) _) _
                        (try simp only [Act.put, List.setIfInBounds_toArray, List.set_cons_zero, List.set_cons_succ])
                        refine wpAny_done (by kernel_rfl) ?_ _
                        (try simp only [Act.put, List.setIfInBounds_toArray, List.set_cons_zero, List.set_cons_succ])
                        go_wp2_with fail
                        go_ret
                        exact ⟨by first | rfl | (simp; done), hC'.out.below⟩
                      exact AllReady.nil
                    refine AllReady.cons rfl (fun K hK => ?_) ?_
                    · go_simp
                      (try (refine hK _ _ ?_; clear hK K))
                      (try simp only [Act.put, List.setIfInBounds_toArray, List.set_cons_zero, List.set_cons_succ])
                      refine wpAny_take (i := 14) (v := ?_) rfl (by kernel_rfl) (by kernel_rfl) (by kernel_rfl) (fun _ _ _ h => h) (Or.inl ⟨by kernel_rfl, ?_⟩) ?_
                      rotate_left
                      · (intro w; go_simp; try with_reducible rfl)
                      change wpAny _ _ _ _ _ _ (Act.put _ (some 100) _) _
                      (try simp only [Act.put, List.setIfInBounds_toArray, List.set_cons_zero, List.set_cons_succ])
                      refine wpAny_ready (rs := [8]) (by kernel_rfl) (by simp) ?_
                      refine AllReady.cons rfl (fun K hK => ?_) ?_
                      · go_simp
                        (try (refine hK _ _ ?_; clear hK K))
                        (try simp only [Act.put, List.setIfInBounds_toArray, List.set_cons_zero, List.set_cons_succ])
                        refine wpAny_take (i := 15) (v := ?_) rfl (by kernel_rfl) (by kernel_rfl) (by kernel_rfl) (fun _ _ _ h => h) (Or.inl ⟨by kernel_rfl, ?_⟩) ?_
                        rotate_left
                        · (intro w; go_simp; try with_reducible rfl)
                        change wpAny _ _ _ _ _ _ (Act.put _ (some 101) _) _
                        (try simp only [Act.put, List.setIfInBounds_toArray, List.set_cons_zero, List.set_cons_succ])
                        refine wpAny_take (i := 16) (v := ?_) rfl (by kernel_rfl) (by kernel_rfl) (by kernel_rfl) (fun _ _ _ h => h) (Or.inl ⟨by kernel_rfl, ?_⟩) ?_
                        rotate_left
                        · (intro w; go_simp; try with_reducible rfl)
                        change wpAny _ _ _ _ _ _ (Act.put _ (some 102) _) _
                        (try simp only [Act.put, List.setIfInBounds_toArray, List.set_cons_zero, List.set_cons_succ])
                        refine wpAny_take (i := 17) (v := ?_) rfl (by kernel_rfl) (by kernel_rfl) (by kernel_rfl) (fun _ _ _ h => h) (Or.inl ⟨by kernel_rfl, ?_⟩) ?_
                        rotate_left
                        · (intro w; go_simp; try with_reducible rfl)
                        change wpAny _ _ _ _ _ _ (Act.put _ (some 103) _) _
                        (try simp only [Act.put, List.setIfInBounds_toArray, List.set_cons_zero, List.set_cons_succ])
                        refine wpAny_take (i := 18) (v := ?_) rfl (by kernel_rfl) (by kernel_rfl) (by kernel_rfl) (fun _ _ _ h => h) (Or.inl ⟨by kernel_rfl, ?_⟩) ?_
                        rotate_left
                        · (intro w; go_simp; try with_reducible rfl)
                        change wpAny _ _ _ _ _ _ (Act.put _ (some 6) _) _
                        (try simp only [Act.put, List.setIfInBounds_toArray, List.set_cons_zero, List.set_cons_succ])
                        refine wpAny_done (by kernel_rfl) ?_ _
                        (try simp only [Act.put, List.setIfInBounds_toArray, List.set_cons_zero, List.set_cons_succ])
                        go_wp2_with fail
                        go_ret
                        exact ⟨by first | rfl | (simp; done), hC'.out.below⟩
                      exact AllReady.nil
                    exact AllReady.nil
                  refine AllReady.cons rfl (fun K hK => ?_) ?_
                  · go_simp
                    (try (refine hK _ _ ?_; clear hK K))
                    (try simp only [Act.put, List.setIfInBounds_toArray, List.set_cons_zero, List.set_cons_succ])
                    refine wpAny_ready (rs := [5, 11]) (by kernel_rfl) (by simp) ?_
                    refine AllReady.cons rfl (fun K hK => ?_) ?_
                    · go_simp
                      (try (refine hK _ _ ?_; clear hK K))
                      (try simp only [Act.put, List.setIfInBounds_toArray, List.set_cons_zero, List.set_cons_succ])
                      refine wpAny_ready (rs := [11]) (by kernel_rfl) (by simp) ?_
                      refine AllReady.cons rfl (fun K hK => ?_) ?_
                      · go_simp
                        (try (refine hK _ _ ?_; clear hK K))
                        (try simp only [Act.put, List.setIfInBounds_toArray, List.set_cons_zero, List.set_cons_succ])
                        refine wpAny_take (i := 14) (v := ?_) rfl (by kernel_rfl) (by kernel_rfl) (by kernel_rfl) (fun _ _ _ h => h) (Or.inl ⟨by kernel_rfl, ?_⟩) ?_
                        rotate_left
                        · (intro w; go_simp; try with_reducible rfl)
                        change wpAny _ _ _ _ _ _ (Act.put _ (some 100) _) _
                        (try simp only [Act.put, List.setIfInBounds_toArray, List.set_cons_zero, List.set_cons_succ])
                        refine wpAny_take (i := 15) (v := ?_) rfl (by kernel_rfl) (by kernel_rfl) (by kernel_rfl) (fun _ _ _ h => h) (Or.inl ⟨by kernel_rfl, ?_⟩) ?_
                        rotate_left
                        · (intro w; go_simp; try with_reducible rfl)
                        change wpAny _ _ _ _ _ _ (Act.put _ (some 101) _) _
                        (try simp only [Act.put, List.setIfInBounds_toArray, List.set_cons_zero, List.set_cons_succ])
                        refine wpAny_take (i := 16) (v := ?_) rfl (by kernel_rfl) (by kernel_rfl) (by kernel_rfl) (fun _ _ _ h => h) (Or.inl ⟨by kernel_rfl, ?_⟩) ?_
                        rotate_left
                        · (intro w; go_simp; try with_reducible rfl)
                        change wpAny _ _ _ _ _ _ (Act.put _ (some 102) _) _
                        (try simp only [Act.put, List.setIfInBounds_toArray, List.set_cons_zero, List.set_cons_succ])
                        refine wpAny_take (i := 17) (v := ?_) rfl (by kernel_rfl) (by kernel_rfl) (by kernel_rfl) (fun _ _ _ h => h) (Or.inl ⟨by kernel_rfl, ?_⟩) ?_
                        rotate_left
                        · (intro w; go_simp; try with_reducible rfl)
                        change wpAny _ _ _ _ _ _ (Act.put _ (some 103) _) _
                        (try simp only [Act.put, List.setIfInBounds_toArray, List.set_cons_zero, List.set_cons_succ])
                        refine wpAny_take (i := 18) (v := ?_) rfl (by kernel_rfl) (by kernel_rfl) (by kernel_rfl) (fun _ _ _ h => h) (Or.inl ⟨by kernel_rfl, ?_⟩) ?_
                        rotate_left
                        · (intro w; go_simp; try with_reducible rfl)
                        change wpAny _ _ _ _ _ _ (Act.put _ (some 6) _) _
                        (try simp only [Act.put, List.setIfInBounds_toArray, List.set_cons_zero, List.set_cons_succ])
                        refine wpAny_done (by kernel_rfl) ?_ _
                        (try simp only [Act.put, List.setIfInBounds_toArray, List.set_cons_zero, List.set_cons_succ])
                        go_wp2_with fail
                        go_ret
                        exact ⟨by first | rfl | (simp; done), hC'.out.below⟩
                      exact AllReady.nil
                    refine AllReady.cons rfl (fun K hK => ?_) ?_
                    · go_simp
                      (try (refine hK _ _ ?_; clear hK K))
                      (try simp only [Act.put, List.setIfInBounds_toArray, List.set_cons_zero, List.set_cons_succ])
                      refine wpAny_take (i := 14) (v := ?_) rfl (by kernel_rfl) (by kernel_rfl) (by kernel_rfl) (fun _ _ _ h => h) (Or.inl ⟨by kernel_rfl, ?_⟩) ?_
                      rotate_left
                      · (intro w; go_simp; try with_reducible rfl)
                      change wpAny _ _ _ _ _ _ (Act.put _ (some 100) _) _
                      (try simp only [Act.put, List.setIfInBounds_toArray, List.set_cons_zero, List.set_cons_succ])
                      refine wpAny_take (i := 15) (v := ?_) rfl (by kernel_rfl) (by kernel_rfl) (by kernel_rfl) (fun _ _ _ h => h) (Or.inl ⟨by kernel_rfl, ?_⟩) ?_
                      rotate_left
                      · (intro w; go_simp; try with_reducible rfl)
                      change wpAny _ _ _ _ _ _ (Act.put _ (some 101) _) _
                      (try simp only [Act.put, List.setIfInBounds_toArray, List.set_cons_zero, List.set_cons_succ])
                      refine wpAny_ready (rs := [5]) (by kernel_rfl) (by simp) ?_
                      refine AllReady.cons rfl (fun K hK => ?_) ?_
                      · go_simp
                        (try (refine hK _ _ ?_; clear hK K))
                        (try simp only [Act.put, List.setIfInBounds_toArray, List.set_cons_zero, List.set_cons_succ])
                        refine wpAny_take (i := 16) (v := ?_) rfl (by kernel_rfl) (by kernel_rfl) (by kernel_rfl) (fun _ _ _ h => h) (Or.inl ⟨by kernel_rfl, ?_⟩) ?_
                        rotate_left
                        · (intro w; go_simp; try with_reducible rfl)
                        change wpAny _ _ _ _ _ _ (Act.put _ (some 102) _) _
                        (try simp only [Act.put, List.setIfInBounds_toArray, List.set_cons_zero, List.set_cons_succ])
                        refine wpAny_take (i := 17) (v := ?_) rfl (by kernel_rfl) (by kernel_rfl) (by kernel_rfl) (fun _ _ _ h => h) (Or.inl ⟨by kernel_rfl, ?_⟩) ?_
                        rotate_left
                        · (intro w; go_simp; try with_reducible rfl)
                        change wpAny _ _ _ _ _ _ (Act.put _ (some 103) _) _
                        (try simp only [Act.put, List.setIfInBounds_toArray, List.set_cons_zero, List.set_cons_succ])
                        refine wpAny_take (i := 18) (v := ?_) rfl (by kernel_rfl) (by kernel_rfl) (by kernel_rfl) (fun _ _ _ h => h) (Or.inl ⟨by kernel_rfl, ?_⟩) ?_
                        rotate_left
                        · (intro w; go_simp; try with_reducible rfl)
                        change wpAny _ _ _ _ _ _ (Act.put _ (some 6) _) _
                        (try simp only [Act.put, List.setIfInBounds_toArray, List.set_cons_zero, List.set_cons_succ])
                        refine wpAny_done (by kernel_rfl) ?_ _
                        (try simp only [Act.put, List.setIfInBounds_toArray, List.set_cons_zero, List.set_cons_succ])
                        go_wp2_with fail
                        go_ret
                        exact ⟨by first | rfl | (simp; done), hC'.out.below⟩
                      exact AllReady.nil
                    exact AllReady.nil
                  refine AllReady.cons rfl (fun K hK => ?_) ?_
                  · go_simp
                    (try (refine hK _ _ ?_; clear hK K))
                    (try simp only [Act.put, List.setIfInBounds_toArray, List.set_cons_zero, List.set_cons_succ])
                    refine wpAny_take (i := 14) (v := ?_) rfl (by kernel_rfl) (by kernel_rfl) (by kernel_rfl) (fun _ _ _ h => h) (Or.inl ⟨by kernel_rfl, ?_⟩) ?_
                    rotate_left
                    · (intro w; go_simp; try with_reducible rfl)
                    change wpAny _ _ _ _ _ _ (Act.put _ (some 100) _) _
                    (try simp only [Act.put, List.setIfInBounds_toArray, List.set_cons_zero, List.set_cons_succ])
                    refine wpAny_ready (rs := [5, 8]) (by kernel_rfl) (by simp) ?_
                    refine AllReady.cons rfl (fun K hK => ?_) ?_
                    · go_simp
                      (try (refine hK _ _ ?_; clear hK K))
                      (try simp only [Act.put, List.setIfInBounds_toArray, List.set_cons_zero, List.set_cons_succ])
                      refine wpAny_ready (rs := [8]) (by kernel_rfl) (by simp) ?_
                      refine AllReady.cons rfl (fun K hK => ?_) ?_
                      · go_simp
                        (try (refine hK _ _ ?_; clear hK K))
                        (try simp only [Act.put, List.setIfInBounds_toArray, List.set_cons_zero, List.set_cons_succ])
                        refine wpAny_take (i := 15) (v := ?_) rfl (by kernel_rfl) (by kernel_rfl) (by kernel_rfl) (fun _ _ _ h => h) (Or.inl ⟨by kernel_rfl, ?_⟩) ?_
                        rotate_left
                        · (intro w; go_simp; try with_reducible rfl)
                        change wpAny _ _ _ _ _ _ (Act.put _ (some 101) _) _
                        (try simp only [Act.put, List.setIfInBounds_toArray, List.set_cons_zero, List.set_cons_succ])
                        refine wpAny_take (i := 16) (v := ?_) rfl (by kernel_rfl) (by kernel_rfl) (by kernel_rfl) (fun _ _ _ h => h) (Or.inl ⟨by kernel_rfl, ?_⟩) ?_
                        rotate_left
                        · (intro w; go_simp; try with_reducible rfl)
                        change wpAny _ _ _ _ _ _ (Act.put _ (some 102) _) _
                        (try simp only [Act.put, List.setIfInBounds_toArray, List.set_cons_zero, List.set_cons_succ])
                        refine wpAny_take (i := 17) (v := ?_) rfl (by kernel_rfl) (by kernel_rfl) (by kernel_rfl) (fun _ _ _ h => h) (Or.inl ⟨by kernel_rfl, ?_⟩) ?_
                        rotate_left
                        · (intro w; go_simp; try with_reducible rfl)
                        change wpAny _ _ _ _ _ _ (Act.put _ (some 103) _) _
                        (try simp only [Act.put, List.setIfInBounds_toArray, List.set_cons_zero, List.set_cons_succ])
                        refine wpAny_take (i := 18) (v := ?_) rfl (by kernel_rfl) (by kernel_rfl) (by kernel_rfl) (fun _ _ _ h => h) (Or.inl ⟨by kernel_rfl, ?_⟩) ?_
                        rotate_left
                        · (intro w; go_simp; try with_reducible rfl)
                        change wpAny _ _ _ _ _ _ (Act.put _ (some 6) _) _
                        (try simp only [Act.put, List.setIfInBounds_toArray, List.set_cons_zero, List.set_cons_succ])
                        refine wpAny_done (by kernel_rfl) ?_ _
                        (try simp only [Act.put, List.setIfInBounds_toArray, List.set_cons_zero, List.set_cons_succ])
                        go_wp2_with fail
                        go_ret
                        exact ⟨by first | rfl | (simp; done), hC'.out.below⟩
                      exact AllReady.nil
                    refine AllReady.cons rfl (fun K hK => ?_) ?_
                    · go_simp
                      (try (refine hK _ _ ?_; clear hK K))
                      (try simp only [Act.put, List.setIfInBounds_toArray, List.set_cons_zero, List.set_cons_succ])
                      refine wpAny_take (i := 15) (v := ?_) rfl (by kernel_rfl) (by kernel_rfl) (by kernel_rfl) (fun _ _ _ h => h) (Or.inl ⟨by kernel_rfl, ?_⟩) ?_
                      rotate_left
                      · (intro w; go_simp; try with_reducible rfl)
                      change wpAny _ _ _ _ _ _ (Act.put _ (some 101) _) _
                      (try simp only [Act.put, List.setIfInBounds_toArray, List.set_cons_zero, List.set_cons_succ])
                      refine wpAny_ready (rs := [5]) (by kernel_rfl) (by simp) ?_
                      refine AllReady.cons rfl (fun K hK => ?_) ?_
                      · go_simp
                        (try (refine hK _ _ ?_; clear hK K))
                        (try simp only [Act.put, List.setIfInBounds_toArray, List.set_cons_zero, List.set_cons_succ])
                        refine wpAny_take (i := 16) (v := ?_) rfl (by kernel_rfl) (by kernel_rfl) (by kernel_rfl) (fun _ _ _ h => h) (Or.inl ⟨by kernel_rfl, ?_⟩) ?_
                        rotate_left
                        · (intro w; go_simp; try with_reducible rfl)
                        change wpAny _ _ _ _ _ _ (Act.put _ (some 102) _) _
                        (try simp only [Act.put, List.setIfInBounds_toArray, List.set_cons_zero, List.set_cons_succ])
                        refine wpAny_take (i := 17) (v := ?_) rfl (by kernel_rfl) (by kernel_rfl) (by kernel_rfl) (fun _ _ _ h => h) (Or.inl ⟨by kernel_rfl, ?_⟩) ?_
                        rotate_left
                        · (intro w; go_simp; try with_reducible rfl)
                        change wpAny _ _ _ _ _ _ (Act.put _ (some 103) _) _
                        (try simp only [Act.put, List.setIfInBounds_toArray, List.set_cons_zero, List.set_cons_succ])
                        refine wpAny_take (i := 18) (v := ?_) rfl (by kernel_rfl) (by kernel_rfl) (by kernel_rfl) (fun _ _ _ h => h) (Or.inl ⟨by kernel_rfl, ?_⟩) ?_
                        rotate_left
                        · (intro w; go_simp; try with_reducible rfl)
                        change wpAny _ _ _ _ _ _ (Act.put _ (some 6) _) _
                        (try simp only [Act.put, List.setIfInBounds_toArray, List.set_cons_zero, List.set_cons_succ])
                        refine wpAny_done (by kernel_rfl) ?_ _
                        (try simp only [Act.put, List.setIfInBounds_toArray, List.set_cons_zero, List.set_cons_succ])
                        go_wp2_with fail
                        go_ret
                        exact ⟨by first | rfl | (simp; done), hC'.out.below⟩
                      exact AllReady.nil
                    exact AllReady.nil
                  exact AllReady.nil
                exact AllReady.nil
              refine AllReady.cons rfl (fun K hK => ?_) ?_
              · go_simp
                (try (refine hK _ _ ?_; clear hK K))
                (try simp only [Act.put, List.setIfInBounds_toArray, List.set_cons_zero, List.set_cons_succ])
                refine wpAny_ready (rs := [5, 7, 11]) (by kernel_rfl) (by simp) ?_
                refine AllReady.cons rfl (fun K hK => ?_) ?_
                · go_simp
                  (try (refine hK _ _ ?_; clear hK K))
                  (try simp only [Act.put, List.setIfInBounds_toArray, List.set_cons_zero, List.set_cons_succ])
                  refine wpAny_ready (rs := [7, 11]) (by kernel_rfl) (by simp) ?_
                  refine AllReady.cons rfl (fun K hK => ?_) ?_
                  · go_simp
                    (try (refine hK _ _ ?_; clear hK K))
                    (try simp only [Act.put, List.setIfInBounds_toArray, List.set_cons_zero, List.set_cons_succ])
                    refine wpAny_ready (rs := [8, 11]) (by kernel_rfl) (by simp) ?_
                    refine AllReady.cons rfl (fun K hK => ?_) ?_
                    · go_simp
                      (try (refine hK _ _ ?_; clear hK K))
                      (try simp only [Act.put, List.setIfInBounds_toArray, List.set_cons_zero, List.set_cons_succ])
                      refine wpAny_ready (rs := [11]) (by kernel_rfl) (by simp) ?_
                      refine AllReady.cons rfl (fun K hK => ?_) ?_
                      · go_simp
                        (try (refine hK _ _ ?_; clear hK K))
                        (try simp only [Act.put, List.setIfInBounds_toArray, List.set_cons_zero, List.set_cons_succ])
                        refine wpAny_take (i := 14) (v := ?_) rfl (by kernel_rfl) (by kernel_rfl) (by kernel_rfl) (fun _ _ _ h => h) (Or.inl ⟨by kernel_rfl, ?_⟩) ?_
                        rotate_left
                        · (intro w; go_simp; try with_reducible rfl)
                        change wpAny _ _ _ _ _ _ (Act.put _ (some 100) _) _
                        (try simp only [Act.put, List.setIfInBounds_toArray, List.set_cons_zero, List.set_cons_succ])
                        refine wpAny_take (i := 15) (v := ?_) rfl (by kernel_rfl) (by kernel_rfl) (by kernel_rfl) (fun _ _ _ h => h) (Or.inl ⟨by kernel_rfl, ?_⟩) ?_
                        rotate_left
                        · (intro w; go_simp; try with_reducible rfl)
                        change wpAny _ _ _ _ _ _ (Act.put _ (some 101) _) _
                        (try simp only [Act.put, List.setIfInBounds_toArray, List.set_cons_zero, List.set_cons_succ])
                        refine wpAny_take (i := 16) (v := ?_) rfl (by kernel_rfl) (by kernel_rfl) (by kernel_rfl) (fun _ _ _ h => h) (Or.inl ⟨by kernel_rfl, ?_⟩) ?_
                        rotate_left
                        · (intro w; go_simp; try with_reducible rfl)
                        change wpAny _ _ _ _ _ _ (Act.put _ (some 102) _) _
                        (try simp only [Act.put, List.setIfInBounds_toArray, List.set_cons_zero, List.set_cons_succ])
                        refine wpAny_take (i := 17) (v := ?_) rfl (by kernel_rfl) (by kernel_rfl) (by kernel_rfl) (fun _ _ _ h => h) (Or.inl ⟨by kernel_rfl, ?_⟩) ?_
                        rotate_left
                        · (intro w; go_simp; try with_reducible rfl)
                        change wpAny _ _ _ _ _ _ (Act.put _ (some 103) _) _
                        (try simp only [Act.put, List.setIfInBounds_toArray, List.set_cons_zero, List.set_cons_succ])
                        refine wpAny_take (i := 18) (v := ?_) rfl (by kernel_rfl) (by kernel_rfl) (by kernel_rfl) (fun _ _ _ h => h) (Or.inl ⟨by kernel_rfl, ?_⟩) ?_
                        rotate_left
                        · (intro w; go_simp; try with_reducible rfl)
                        change wpAny _ _ _ _ _ _ (Act.put _ (some 6) _) _
                        (try simp only [Act.put, List.setIfInBounds_toArray, List.set_cons_zero, List.set_cons_succ])
                        refine wpAny_done (by kernel_rfl) ?_ _
                        (try simp only [Act.put, List.setIfInBounds_toArray, List.set_cons_zero, List.set_cons_succ])
                        go_wp2_with fail
                        go_ret
                        exact ⟨by first | rfl | (simp; done), hC'.out.below⟩
                      exact AllReady.nil
                    refine AllReady.cons rfl (fun K hK => ?_) ?_
                    · go_simp
                      (try (refine hK _ _ ?_; clear hK K))
                      (try simp only [Act.put, List.setIfInBounds_toArray, List.set_cons_zero, List.set_cons_succ])
                      refine wpAny_take (i := 14) (v := ?_) rfl (by kernel_rfl) (by kernel_rfl) (by kernel_rfl) (fun _ _ _ h => h) (Or.inl ⟨by kernel_rfl, ?_⟩) ?_
                      rotate_left
                      · (intro w; go_simp; try with_reducible rfl)
                      change wpAny _ _ _ _ _ _ (Act.put _ (some 100) _) _
                      (try simp only [Act.put, List.setIfInBounds_toArray, List.set_cons_zero, List.set_cons_succ])
                      refine wpAny_ready (rs := [8]) (by kernel_rfl) (by simp) ?_
                      refine AllReady.cons rfl (fun K hK => ?_) ?_
                      · go_simp
                        (try (refine hK _ _ ?_; clear hK K))
                        (try simp only [Act.put, List.setIfInBounds_toArray, List.set_cons_zero, List.set_cons_succ])
                        refine wpAny_take (i := 15) (v := ?_) rfl (by kernel_rfl) (by kernel_rfl) (by kernel_rfl) (fun _ _ _ h => h) (Or.inl ⟨by kernel_rfl, ?_⟩) ?_
                        rotate_left
                        · (intro w; go_simp; try with_reducible rfl)
                        change wpAny _ _ _ _ _ _ (Act.put _ (some 101) _) _
                        (try simp only [Act.put, List.setIfInBounds_toArray, List.set_cons_zero, List.set_cons_succ])
                        refine wpAny_take (i := 16) (v := ?_) rfl (by kernel_rfl) (by kernel_rfl) (by kernel_rfl) (fun _ _ _ h => h) (Or.inl ⟨by kernel_rfl, ?_⟩) ?_
                        rotate_left
                        · (intro w; go_simp; try with_reducible rfl)
                        change wpAny _ _ _ _ _ _ (Act.put _ (some 102) _) _
                        (try simp only [Act.put, List.setIfInBounds_toArray, List.set_cons_zero, List.set_cons_succ])
                        refine wpAny_take (i := 17) (v := ?_) rfl (by kernel_rfl) (by kernel_rfl) (by kernel_rfl) (fun _ _ _ h => h) (Or.inl ⟨by kernel_rfl, ?_⟩) ?_
                        rotate_left
                        · (intro w; go_simp; try with_reducible rfl)
                        change wpAny _ _ _ _ _ _ (Act.put _ (some 103) _) _
                        (try simp only [Act.put, List.setIfInBounds_toArray, List.set_cons_zero, List.set_cons_succ])
                        refine wpAny_take (i := 18) (v := ?_) rfl (by kernel_rfl) (by kernel_rfl) (by kernel_rfl) (fun _ _ _ h => h) (Or.inl ⟨by kernel_rfl, ?_⟩) ?_
                        rotate_left
                        · (intro w; go_simp; try with_reducible rfl)
                        change wpAny _ _ _ _ _ _ (Act.put _ (some 6) _) _
                        (try simp only [Act.put, List.setIfInBounds_toArray, List.set_cons_zero, List.set_cons_succ])
                        refine wpAny_done (by kernel_rfl) ?_ _
                        (try simp only [Act.put, List.setIfInBounds_toArray, List.set_cons_zero, List.set_cons_succ])
                        go_wp2_with fail
                        go_ret
                        exact ⟨by first | rfl | (simp; done), hC'.out.below⟩
                      exact AllReady.nil
                    exact AllReady.nil
                  refine AllReady.cons rfl (fun K hK => ?_) ?_
                  · go_simp
                    (try (refine hK _ _ ?_; clear hK K))
                    (try simp only [Act.put, List.setIfInBounds_toArray, List.set_cons_zero, List.set_cons_succ])
                    refine wpAny_take (i := 14) (v := ?_) rfl (by kernel_rfl) (by kernel_rfl) (by kernel_rfl) (fun _ _ _ h => h) (Or.inl ⟨by kernel_rfl, ?_⟩) ?_
                    rotate_left
                    · (intro w; go_simp; try with_reducible rfl)
                    change wpAny _ _ _ _ _ _ (Act.put _ (some 100) _) _
                    (try simp only [Act.put, List.setIfInBounds_toArray, List.set_cons_zero, List.set_cons_succ])
                    refine wpAny_ready (rs := [7]) (by kernel_rfl) (by simp) ?_
                    refine AllReady.cons rfl (fun K hK => ?_) ?_
                    · go_simp
                      (try (refine hK _ _ ?_; clear hK K))
                      (try simp only [Act.put, List.setIfInBounds_toArray, List.set_cons_zero, List.set_cons_succ])
                      refine wpAny_ready (rs := [8]) (by kernel_rfl) (by simp) ?_
                      refine AllReady.cons rfl (fun K hK => ?_) ?_
                      · go_simp
                        (try (refine hK _ _ ?_; clear hK K))
                        (try simp only [Act.put, List.setIfInBounds_toArray, List.set_cons_zero, List.set_cons_succ])
                        refine wpAny_take (i := 15) (v := ?_) rfl (by kernel_rfl) (by kernel_rfl) (by kernel_rfl) (fun _ _ _ h => h) (Or.inl ⟨by kernel_rfl, ?_⟩) ?_
                        rotate_left
                        · (intro w; go_simp; try with_reducible rfl)
                        change wpAny _ _ _ _ _ _ (Act.put _ (some 101) _) _
                        (try simp only [Act.put, List.setIfInBounds_toArray, List.set_cons_zero, List.set_cons_succ])
                        refine wpAny_take (i := 16) (v := ?_) rfl (by kernel_rfl) (by kernel_rfl) (by kernel_rfl) (fun _ _ _ h => h) (Or.inl ⟨by kernel_rfl, ?_⟩) ?_
                        rotate_left
                        · (intro w; go_simp; try with_reducible rfl)
                        change wpAny _ _ _ _ _ _ (Act.put _ (some 102) _) _
                        (try simp only [Act.put, List.setIfInBounds_toArray, List.set_cons_zero, List.set_cons_succ])
                        refine wpAny_take (i := 17) (v := ?_) rfl (by kernel_rfl) (by kernel_rfl) (by kernel_rfl) (fun _ _ _ h => h) (Or.inl ⟨by kernel_rfl, ?_⟩) ?_
                        rotate_left
                        · (intro w; go_simp; try with_reducible rfl)
                        change wpAny _ _ _ _ _ _ (Act.put _ (some 103) _) _
                        (try simp only [Act.put, List.setIfInBounds_toArray, List.set_cons_zero, List.set_cons_succ])
                        refine wpAny_take (i := 18) (v := ?_) rfl (by kernel_rfl) (by kernel_rfl) (by kernel_rfl) (fun _ _ _ h => h) (Or.inl ⟨by kernel_rfl, ?_⟩) ?_
                        rotate_left
                        · (intro w; go_simp; try with_reducible rfl)
                        change wpAny _ _ _ _ _ _ (Act.put _ (some 6) _) _
                        (try simp only [Act.put, List.setIfInBounds_toArray, List.set_cons_zero, List.set_cons_succ])
                        refine wpAny_done (by kernel_rfl) ?_ _
                        (try simp only [Act.put, List.setIfInBounds_toArray, List.set_cons_zero, List.set_cons_succ])
                        go_wp2_with fail
                        go_ret
                        exact ⟨by first | rfl | (simp; done), hC'.out.below⟩
                      exact AllReady.nil
                    exact AllReady.nil
                  exact AllReady.nil
                refine AllReady.cons rfl (fun K hK => ?_) ?_
                · go_simp
                  (try (refine hK _ _ ?_; clear hK K))
                  (try simp only [Act.put, List.setIfInBounds_toArray, List.set_cons_zero, List.set_cons_succ])
                  refine wpAny_ready (rs := [5, 8, 11]) (by kernel_rfl) (by simp) ?_
                  refine AllReady.cons rfl (fun K hK => ?_) ?_
                  · go_simp
                    (try (refine hK _ _ ?_; clear hK K))
                    (try simp only [Act.put, List.setIfInBounds_toArray, List.set_cons_zero, List.set_cons_succ])
                    refine wpAny_ready (rs := [8, 11]) (by kernel_rfl) (by simp) ?_
                    refine AllReady.cons rfl (fun K hK => ?_) ?_
                    · go_simp
                      (try (refine hK _ _ ?_; clear hK K))
                      (try simp only [Act.put, List.setIfInBounds_toArray, List.set_cons_zero, List.set_cons_succ])
                      refine wpAny_ready (rs := [11]) (by kernel_rfl) (by simp) ?_
                      refine AllReady.cons rfl (fun K hK => ?_) ?_
                      · go_simp
                        (try (refine hK _ _ ?_; clear hK K))
                        (try simp only [Act.put, List.setIfInBounds_toArray, List.set_cons_zero, List.set_cons_succ])
                        refine wpAny_take (i := 14) (v := ?_) rfl (by kernel_rfl) (by kernel_rfl) (by kernel_rfl) (fun _ _ _ h => h) (Or.inl ⟨by kernel_rfl, ?_⟩) ?_
                        rotate_left
                        · (intro w; go_simp; try with_reducible rfl)
                        change wpAny _ _ _ _ _ _ (Act.put _ (some 100) _) _
                        (try simp only [Act.put, List.setIfInBounds_toArray, List.set_cons_zero, List.set_cons_succ])
                        refine wpAny_take (i := 15) (v := ?_) rfl (by kernel_rfl) (by kernel_rfl) (by kernel_rfl) (fun _ _ _ h => h) (Or.inl ⟨by kernel_rfl, ?_⟩) ?_
                        rotate_left
                        · (intro w; go_simp; try with_reducible rfl)
                        change wpAny _ _ _ _ _ _ (Act.put _ (some 101) _) _
                        (try simp only [Act.put, List.setIfInBounds_toArray, List.set_cons_zero, List.set_cons_succ])
                        refine wpAny_take (i := 16) (v := ?_) rfl (by kernel_rfl) (by kernel_rfl) (by kernel_rfl) (fun _ _ _ h => h) (Or.inl ⟨by kernel_rfl, ?_⟩) ?_
                        rotate_left
                        · (intro w; go_simp; try with_reducible rfl)
                        change wpAny _ _ _ _ _ _ (Act.put _ (some 102) _) _
                        (try simp only [Act.put, List.setIfInBounds_toArray, List.set_cons_zero, List.set_cons_succ])
                        refine wpAny_take (i := 17) (v := ?_) rfl (by kernel_rfl) (by kernel_rfl) (by kernel_rfl) (fun _ _ _ h => h) (Or.inl ⟨by kernel_rfl, ?_⟩) ?_
                        rotate_left
                        · (intro w; go_simp; try with_reducible rfl)
                        change wpAny _ _ _ _ _ _ (Act.put _ (some 103) _) _
                        (try simp only [Act.put, List.setIfInBounds_toArray, List.set_cons_zero, List.set_cons_succ])
                        refine wpAny_take (i := 18) (v := ?_) rfl (by kernel_rfl) (by kernel_rfl) (by kernel_rfl) (fun _ _ _ h => h) (Or.inl ⟨by kernel_rfl, ?_⟩) ?_
                        rotate_left
                        · (intro w; go_simp; try with_reducible rfl)
                        change wpAny _ _ _ _ _ _ (Act.put _ (some 6) _) _
                        (try simp only [Act.put, List.setIfInBounds_toArray, List.set_cons_zero, List.set_cons_succ])
                        refine wpAny_done (by kernel_rfl) ?_ _
                        (try simp only [Act.put, List.setIfInBounds_toArray, List.set_cons_zero, List.set_cons_succ])
                        go_wp2_with fail
                        go_ret
                        exact ⟨by first | rfl | (simp; done), hC'.out.below⟩
                      exact AllReady.nil
                    refine AllReady.cons rfl (fun K hK => ?_) ?_
                    · go_simp
                      (try (refine hK _ _ ?_; clear hK K))
                      (try simp only [Act.put, List.setIfInBounds_toArray, List.set_cons_zero, List.set_cons_succ])
                      refine wpAny_take (i := 14) (v := ?_) rfl (by kernel_rfl) (by kernel_rfl) (by kernel_rfl) (fun _ _ _ h => h) (Or.inl ⟨by kernel_rfl, ?_⟩) ?_
                      rotate_left
                      · (intro w; go_simp; try with_reducible rfl)
                      change wpAny _ _ _ _ _ _ (Act.put _ (some 100) _) _
                      (try simp only [Act.put, List.setIfInBounds_toArray, List.set_cons_zero, List.set_cons_succ])
                      refine wpAny_ready (rs := [8]) (by kernel_rfl) (by simp) ?_
                      refine AllReady.cons rfl (fun K hK => ?_) ?_
                      · go_simp
                        (try (refine hK _ _ ?_; clear hK K))
                        (try simp only [Act.put, List.setIfInBounds_toArray, List.set_cons_zero, List.set_cons_succ])
                        refine wpAny_take (i := 15) (v := ?_) rfl (by kernel_rfl) (by kernel_rfl) (by kernel_rfl) (fun _ _ _ h => h) (Or.inl ⟨by kernel_rfl, ?_⟩) ?_
                        rotate_left
                        · (intro w; go_simp; try with_reducible rfl)
                        change wpAny _ _ _ _ _ _ (Act.put _ (some 101) _) _
                        (try simp only [Act.put, List.setIfInBounds_toArray, List.set_cons_zero, List.set_cons_succ])
                        refine wpAny_take (i := 16) (v := ?_) rfl (by kernel_rfl) (by kernel_rfl) (by kernel_rfl) (fun _ _ _ h => h) (Or.inl ⟨by kernel_rfl, ?_⟩) ?_
                        rotate_left
                        · (intro w; go_simp; try with_reducible rfl)
                        change wpAny _ _ _ _ _ _ (Act.put _ (some 102) _) _
                        (try simp only [Act.put, List.setIfInBounds_toArray, List.set_cons_zero, List.set_cons_succ])
                        refine wpAny_take (i := 17) (v := ?_) rfl (by kernel_rfl) (by kernel_rfl) (by kernel_rfl) (fun _ _ _ h => h) (Or.inl ⟨by kernel_rfl, ?_⟩) ?_
                        rotate_left
                        · (intro w; go_simp; try with_reducible rfl)
                        change wpAny _ _ _ _ _ _ (Act.put _ (some 103) _) _
                        (try simp only [Act.put, List.setIfInBounds_toArray, List.set_cons_zero, List.set_cons_succ])
                        refine wpAny_take (i := 18) (v := ?_) rfl (by kernel_rfl) (by kernel_rfl) (by kernel_rfl) (fun _ _ _ h => h) (Or.inl ⟨by kernel_rfl, ?_⟩) ?_
                        rotate_left
                        · (intro w; go_simp; try with_reducible rfl)
                        change wpAny _ _ _ _ _ _ (Act.put _ (some 6) _) _
                        (try simp only [Act.put, List.setIfInBounds_toArray, List.set_cons_zero, List.set_cons_succ])
                        refine wpAny_done (by kernel_rfl) ?_ _
                        (try simp only [Act.put, List.setIfInBounds_toArray, List.set_cons_zero, List.set_cons_succ])
                        go_wp2_with fail
                        go_ret
                        exact ⟨by first | rfl | (simp; done), hC'.out.below⟩
                      exact AllReady.nil
                    exact AllReady.nil
                  refine AllReady.cons rfl (fun K hK => ?_) ?_
                  · go_simp
                    (try (refine hK _ _ ?_; clear hK K))
                    (try simp only [Act.put, List.setIfInBounds_toArray, List.set_cons_zero, List.set_cons_succ])
                    refine wpAny_ready (rs := [5, 11]) (by kernel_rfl) (by simp) ?_
                    refine AllReady.cons rfl (fun K hK => ?_) ?_
                    · go_simp
                      (try (refine hK _ _ ?_; clear hK K))
                      (try simp only [Act.put, List.setIfInBounds_toArray, List.set_cons_zero, List.set_cons_succ])
                      refine wpAny_ready (rs := [11]) (by kernel_rfl) (by simp) ?_
                      refine AllReady.cons rfl (fun K hK => ?_) ?_
                      · go_simp
                        (try (refine hK _ _ ?_; clear hK K))
                        (try simp only [Act.put, List.setIfInBounds_toArray, List.set_cons_zero, List.set_cons_succ])
                        refine wpAny_take (i := 14) (v := ?_) rfl (by kernel_rfl) (by kernel_rfl) (by kernel_rfl) (fun _ _ _ h => h) (Or.inl ⟨by kernel_rfl, ?_⟩) ?_
                        rotate_left
                        · (intro w; go_simp; try with_reducible rfl)
                        change wpAny _ _ _ _ _ _ (Act.put _ (some 100) _) _
                        (try simp only [Act.put, List.setIfInBounds_toArray, List.set_cons_zero, List.set_cons_succ])
                        refine wpAny_take (i := 15) (v := ?_) rfl (by kernel_rfl) (by kernel_rfl) (by kernel_rfl) (fun _ _ _ h => h) (Or.inl ⟨by kernel_rfl, ?_⟩) ?_
                        rotate_left
                        · (intro w; go_simp; try with_reducible rfl)
                        change wpAny _ _ _ _ _ _ (Act.put _ (some 101) _) _
                        (try simp only [Act.put, List.setIfInBounds_toArray, List.set_cons_zero, List.set_cons_succ])
                        refine wpAny_take (i := 16) (v := ?_) rfl (by kernel_rfl) (by kernel_rfl) (by kernel_rfl) (fun _ _ _ h => h) (Or.inl ⟨by kernel_rfl, ?_⟩) ?_
                        rotate_left
                        · (intro w; go_simp; try with_reducible rfl)
                        change wpAny _ _ _ _ _ _ (Act.put _ (some 102) _) _
                        (try simp only [Act.put, List.setIfInBounds_toArray, List.set_cons_zero, List.set_cons_succ])
                        refine wpAny_take (i := 17) (v := ?_) rfl (by kernel_rfl) (by kernel_rfl) (by kernel_rfl) (fun _ _ _ h => h) (Or.inl ⟨by kernel_rfl, ?_⟩) ?_
                        rotate_left
                        · (intro w; go_simp; try with_reducible rfl)
                        change wpAny _ _ _ _ _ _ (Act.put _ (some 103) _) _
                        (try simp only [Act.put, List.setIfInBounds_toArray, List.set_cons_zero, List.set_cons_succ])
                        refine wpAny_take (i := 18) (v := ?_) rfl (by kernel_rfl) (by kernel_rfl) (by kernel_rfl) (fun _ _ _ h => h) (Or.inl ⟨by kernel_rfl, ?_⟩) ?_
                        rotate_left
                        · (intro w; go_simp; try with_reducible rfl)
                        change wpAny _ _ _ _ _ _ (Act.put _ (some 6) _) _
                        (try simp only [Act.put, List.setIfInBounds_toArray, List.set_cons_zero, List.set_cons_succ])
                        refine wpAny_done (by kernel_rfl) ?_ _
                        (try simp only [Act.put, List.setIfInBounds_toArray, List.set_cons_zero, List.set_cons_succ])
                        go_wp2_with fail
                        go_ret
                        exact ⟨by first | rfl | (simp; done), hC'.out.below⟩
                      exact AllReady.nil
                    refine AllReady.cons rfl (fun K hK => ?_) ?_
                    · go_simp
                      (try (refine hK _ _ ?_; clear hK K))
                      (try simp only [Act.put, List.setIfInBounds_toArray, List.set_cons_zero, List.set_cons_succ])
                      refine wpAny_take (i := 14) (v := ?_) rfl (by kernel_rfl) (by kernel_rfl) (by kernel_rfl) (fun _ _ _ h => h) (Or.inl ⟨by kernel_rfl, ?_⟩) ?_
                      rotate_left
                      · (intro w; go_simp; try with_reducible rfl)
                      change wpAny _ _ _ _ _ _ (Act.put _ (some 100) _) _
                      (try simp only [Act.put, List.setIfInBounds_toArray, List.set_cons_zero, List.set_cons_succ])
                      refine wpAny_take (i := 15) (v := ?_) rfl (by kernel_rfl) (by kernel_rfl) (by kernel_rfl) (fun _ _ _ h => h) (Or.inl ⟨by kernel_rfl, ?_⟩) ?_
                      rotate_left
                      · (intro w; go_simp; try with_reducible rfl)
                      change wpAny _ _ _ _ _ _ (Act.put _ (some 101) _) _
                      (try simp only [Act.put, List.setIfInBounds_toArray, List.set_cons_zero, List.set_cons_succ])
                      refine wpAny_ready (rs := [5]) (by kernel_rfl) (by simp) ?_
                      refine AllReady.cons rfl (fun K hK => ?_) ?_
                      · go_simp
                        (try (refine hK _ _ ?_; clear hK K))
                        (try simp only [Act.put, List.setIfInBounds_toArray, List.set_cons_zero, List.set_cons_succ])
                        refine wpAny_take (i := 16) (v := ?_) rfl (by kernel_rfl) (by kernel_rfl) (by kernel_rfl) (fun _ _ _ h => h) (Or.inl ⟨by kernel_rfl, ?_⟩) ?_
                        rotate_left
                        · (intro w; go_simp; try with_reducible rfl)
                        change wpAny _ _ _ _ _ _ (Act.put _ (some 102) _) _
                        (try simp only [Act.put, List.setIfInBounds_toArray, List.set_cons_zero, List.set_cons_succ])
                        refine wpAny_take (i := 17) (v := ?_) rfl (by kernel_rfl) (by kernel_rfl) (by kernel_rfl) (fun _ _ _ h => h) (Or.inl ⟨by kernel_rfl, ?_⟩) ?_
                        rotate_left
                        · (intro w; go_simp; try with_reducible rfl)
                        change wpAny _ _ _ _ _ _ (Act.put _ (some 103) _) _
                        (try simp only [Act.put, List.setIfInBounds_toArray, List.set_cons_zero, List.set_cons_succ])
                        refine wpAny_take (i := 18) (v := ?_) rfl (by kernel_rfl) (by kernel_rfl) (by kernel_rfl) (fun _ _ _ h => h) (Or.inl ⟨by kernel_rfl, ?_⟩) ?_
                        rotate_left
                        · (intro w; go_simp; try with_reducible rfl)
                        change wpAny _ _ _ _ _ _ (Act.put _ (some 6) _) _
                        (try simp only [Act.put, List.setIfInBounds_toArray, List.set_cons_zero, List.set_cons_succ])
                        refine wpAny_done (by kernel_rfl) ?_ _
                        (try simp only [Act.put, List.setIfInBounds_toArray, List.set_cons_zero, List.set_cons_succ])
                        go_wp2_with fail
                        go_ret
                        exact ⟨by first | rfl | (simp; done), hC'.out.below⟩
                      exact AllReady.nil
                    exact AllReady.nil
                  refine AllReady.cons rfl (fun K hK => ?_) ?_
                  · go_simp
                    (try (refine hK _ _ ?_; clear hK K))
                    (try simp only [Act.put, List.setIfInBounds_toArray, List.set_cons_zero, List.set_cons_succ])
                    refine wpAny_take (i := 14) (v := ?_) rfl (by kernel_rfl) (by kernel_rfl) (by kernel_rfl) (fun _ _ _ h => h) (Or.inl ⟨by kernel_rfl, ?_⟩) ?_
                    rotate_left
                    · (intro w; go_simp; try with_reducible rfl)
                    change wpAny _ _ _ _ _ _ (Act.put _ (some 100) _) _
                    (try simp only [Act.put, List.setIfInBounds_toArray, List.set_cons_zero, List.set_cons_succ])
                    refine wpAny_ready (rs := [5, 8]) (by kernel_rfl) (by simp) ?_
                    refine AllReady.cons rfl (fun K hK => ?_) ?_
                    · go_simp
                      (try (refine hK _ _ ?_; clear hK K))
                      (try simp only [Act.put, List.setIfInBounds_toArray, List.set_cons_zero, List.set_cons_succ])
                      refine wpAny_ready (rs := [8]) (by kernel_rfl) (by simp) ?_
                      refine AllReady.cons rfl (fun K hK => ?_) ?_
                      · go_simp
                        (try (refine hK _ _ ?_; clear hK K))
                        (try simp only [Act.put, List.setIfInBounds_toArray, List.set_cons_zero, List.set_cons_succ])
                        refine wpAny_take (i := 15) (v := ?_) rfl (by kernel_rfl) (by kernel_rfl) (by kernel_rfl) (fun _ _ _ h => h) (Or.inl ⟨by kernel_rfl, ?_⟩) ?_
                        rotate_left
                        · (intro w; go_simp; try with_reducible rfl)
                        change wpAny _ _ _ _ _ _ (Act.put _ (some 101) _) _
                        (try simp only [Act.put, List.setIfInBounds_toArray, List.set_cons_zero, List.set_cons_succ])
                        refine wpAny_take (i := 16) (v := ?_) rfl (by kernel_rfl) (by kernel_rfl) (by kernel_rfl) (fun _ _ _ h => h) (Or.inl ⟨by kernel_rfl, ?_⟩) ?_
                        rotate_left
                        · (intro w; go_simp; try with_reducible rfl)
                        change wpAny _ _ _ _ _ _ (Act.put _ (some 102) _) _
                        (try simp only [Act.put, List.setIfInBounds_toArray, List.set_cons_zero, List.set_cons_succ])
                        refine wpAny_take (i := 17) (v := ?_) rfl (by kernel_rfl) (by kernel_rfl) (by kernel_rfl) (fun _ _ _ h => h) (Or.inl ⟨by kernel_rfl, ?_⟩) ?_
                        rotate_left
                        · (intro w; go_simp; try with_reducible rfl)
                        change wpAny _ _ _ _ _ _ (Act.put _ (some 103) _) _
                        (try simp only [Act.put, List.setIfInBounds_toArray, List.set_cons_zero, List.set_cons_succ])
                        refine wpAny_take (i := 18) (v := ?_) rfl (by kernel_rfl) (by kernel_rfl) (by kernel_rfl) (fun _ _ _ h => h) (Or.inl ⟨by kernel_rfl, ?_⟩) ?_
                        rotate_left
                        · (intro w; go_simp; try with_reducible rfl)
                        change wpAny _ _ _ _ _ _ (Act.put _ (some 6) _) _
                        (try simp only [Act.put, List.setIfInBounds_toArray, List.set_cons_zero, List.set_cons_succ])
                        refine wpAny_done (by kernel_rfl) ?_ _
                        (try simp only [Act.put, List.setIfInBounds_toArray, List.set_cons_zero, List.set_cons_succ])
                        go_wp2_with fail
                        go_ret
                        exact ⟨by first | rfl | (simp; done), hC'.out.below⟩
                      exact AllReady.nil
                    refine AllReady.cons rfl (fun K hK => ?_) ?_
                    · go_simp
                      (try (refine hK _ _ ?_; clear hK K))
                      (try simp only [Act.put, List.setIfInBounds_toArray, List.set_cons_zero, List.set_cons_succ])
                      refine wpAny_take (i := 15) (v := ?_) rfl (by kernel_rfl) (by kernel_rfl) (by kernel_rfl) (fun _ _ _ h => h) (Or.inl ⟨by kernel_rfl, ?_⟩) ?_
                      rotate_left
                      · (intro w; go_simp; try with_reducible rfl)
                      change wpAny _ _ _ _ _ _ (Act.put _ (some 101) _) _
                      (try simp only [Act.put, List.setIfInBounds_toArray, List.set_cons_zero, List.set_cons_succ])
                      refine wpAny_ready (rs := [5]) (by kernel_rfl) (by simp) ?_
                      refine AllReady.cons rfl (fun K hK => ?_) ?_
                      · go_simp
                        (try (refine hK _ _ ?_; clear hK K))
                        (try simp only [Act.put, List.setIfInBounds_toArray, List.set_cons_zero, List.set_cons_succ])
                        refine wpAny_take (i := 16) (v := ?_) rfl (by kernel_rfl) (by kernel_rfl) (by kernel_rfl) (fun _ _ _ h => h) (Or.inl ⟨by kernel_rfl, ?_⟩) ?_
                        rotate_left
                        · (intro w; go_simp; try with_reducible rfl)
                        change wpAny _ _ _ _ _ _ (Act.put _ (some 102) _) _
                        (try simp only [Act.put, List.setIfInBounds_toArray, List.set_cons_zero, List.set_cons_succ])
                        refine wpAny_take (i := 17) (v := ?_) rfl (by kernel_rfl) (by kernel_rfl) (by kernel_rfl) (fun _ _ _ h => h) (Or.inl ⟨by kernel_rfl, ?_⟩) ?_
                        rotate_left
                        · (intro w; go_simp; try with_reducible rfl)
                        change wpAny _ _ _ _ _ _ (Act.put _ (some 103) _) _
                        (try simp only [Act.put, List.setIfInBounds_toArray, List.set_cons_zero, List.set_cons_succ])
                        refine wpAny_take (i := 18) (v := ?_) rfl (by kernel_rfl) (by kernel_rfl) (by kernel_rfl) (fun _ _ _ h => h) (Or.inl ⟨by kernel_rfl, ?_⟩) ?_
                        rotate_left
                        · (intro w; go_simp; try with_reducible rfl)
                        change wpAny _ _ _ _ _ _ (Act.put _ (some 6) _) _
                        (try simp only [Act.put, List.setIfInBounds_toArray, List.set_cons_zero, List.set_cons_succ])
                        refine wpAny_done (by kernel_rfl) ?_ _
                        (try simp only [Act.put, List.setIfInBounds_toArray, List.set_cons_zero, List.set_cons_succ])
                        go_wp2_with fail
                        go_ret
                        exact ⟨by first | rfl | (simp; done), hC'.out.below⟩
                      exact AllReady.nil
                    exact AllReady.nil
                  exact AllReady.nil
                refine AllReady.cons rfl (fun K hK => ?_) ?_
                · go_simp
                  (try (refine hK _ _ ?_; clear hK K))
                  (try simp only [Act.put, List.setIfInBounds_toArray, List.set_cons_zero, List.set_cons_succ])
                  refine wpAny_take (i := 14) (v := ?_) rfl (by kernel_rfl) (by kernel_rfl) (by kernel_rfl) (fun _ _ _ h => h) (Or.inl ⟨by kernel_rfl, ?_⟩) ?_
                  rotate_left
                  · (intro w; go_simp; try with_reducible rfl)
                  change wpAny _ _ _ _ _ _ (Act.put _ (some 100) _) _
                  (try simp only [Act.put, List.setIfInBounds_toArray, List.set_cons_zero, List.set_cons_succ])
                  refine wpAny_ready (rs := [5, 7]) (by kernel_rfl) (by simp) ?_
                  refine AllReady.cons rfl (fun K hK => ?_) ?_
                  · go_simp
                    (try (refine hK _ _ ?_; clear hK K))
                    (try simp only [Act.put, List.setIfInBounds_toArray, List.set_cons_zero, List.set_cons_succ])
                    refine wpAny_ready (rs := [7]) (by kernel_rfl) (by simp) ?_
                    refine AllReady.cons rfl (fun K hK => ?_) ?_
                    · go_simp
                      (try (refine hK _ _ ?_; clear hK K))
                      (try simp only [Act.put, List.setIfInBounds_toArray, List.set_cons_zero, List.set_cons_succ])
                      refine wpAny_ready (rs := [8]) (by kernel_rfl) (by simp) ?_
                      refine AllReady.cons rfl (fun K hK => ?_) ?_
                      · go_simp
                        (try (refine hK _ _ ?_; clear hK K))
                        (try simp only [Act.put, List.setIfInBounds_toArray, List.set_cons_zero, List.set_cons_succ])
                        refine wpAny_take (i := 15) (v := ?_) rfl (by kernel_rfl) (by kernel_rfl) (by kernel_rfl) (fun _ _ _ h => h) (Or.inl ⟨by kernel_rfl, ?_⟩) ?_
                        rotate_left
                        · (intro w; go_simp; try with_reducible rfl)
                        change wpAny _ _ _ _ _ _ (Act.put _ (some 101) _) _
                        (try simp only [Act.put, List.setIfInBounds_toArray, List.set_cons_zero, List.set_cons_succ])
                        refine wpAny_take (i := 16) (v := ?_) rfl (by kernel_rfl) (by kernel_rfl) (by kernel_rfl) (fun _ _ _ h => h) (Or.inl ⟨by kernel_rfl, ?_⟩) ?_
                        rotate_left
                        · (intro w; go_simp; try with_reducible rfl)
                        change wpAny _ _ _ _ _ _ (Act.put _ (some 102) _) _
                        (try simp only [Act.put, List.setIfInBounds_toArray, List.set_cons_zero, List.set_cons_succ])
                        refine wpAny_take (i := 17) (v := ?_) rfl (by kernel_rfl) (by kernel_rfl) (by kernel_rfl) (fun _ _ _ h => h) (Or.inl ⟨by kernel_rfl, ?_⟩) ?_
                        rotate_left
                        · (intro w; go_simp; try with_reducible rfl)
                        change wpAny _ _ _ _ _ _ (Act.put _ (some 103) _) _
                        (try simp only [Act.put, List.setIfInBounds_toArray, List.set_cons_zero, List.set_cons_succ])
                        refine wpAny_take (i := 18) (v := ?_) rfl (by kernel_rfl) (by kernel_rfl) (by kernel_rfl) (fun _ _ _ h => h) (Or.inl ⟨by kernel_rfl, ?_⟩) ?_
                        rotate_left
                        · (intro w; go_simp; try with_reducible rfl)
                        change wpAny _ _ _ _ _ _ (Act.put _ (some 6) _) _
                        (try simp only [Act.put, List.setIfInBounds_toArray, List.set_cons_zero, List.set_cons_succ])
                        refine wpAny_done (by kernel_rfl) ?_ _
                        (try simp only [Act.put, List.setIfInBounds_toArray, List.set_cons_zero, List.set_cons_succ])
                        go_wp2_with fail
                        go_ret
                        exact ⟨by first | rfl | (simp; done), hC'.out.below⟩
                      exact AllReady.nil
                    exact AllReady.nil
                  refine AllReady.cons rfl (fun K hK => ?_) ?_
                  · go_simp
                    (try (refine hK _ _ ?_; clear hK K))
                    (try simp only [Act.put, List.setIfInBounds_toArray, List.set_cons_zero, List.set_cons_succ])
                    refine wpAny_ready (rs := [5, 8]) (by kernel_rfl) (by simp) ?_
                    refine AllReady.cons rfl (fun K hK => ?_) ?_
                    · go_simp
                      (try (refine hK _ _ ?_; clear hK K))
                      (try simp only [Act.put, List.setIfInBounds_toArray, List.set_cons_zero, List.set_cons_succ])
                      refine wpAny_ready (rs := [8]) (by kernel_rfl) (by simp) ?_
                      refine AllReady.cons rfl (fun K hK => ?_) ?_
                      · go_simp
                        (try (refine hK _ _ ?_; clear hK K))
                        (try simp only [Act.put, List.setIfInBounds_toArray, List.set_cons_zero, List.set_cons_succ])
                        refine wpAny_take (i := 15) (v := ?_) rfl (by kernel_rfl) (by kernel_rfl) (by kernel_rfl) (fun _ _ _ h => h) (Or.inl ⟨by kernel_rfl, ?_⟩) ?_
                        rotate_left
                        · (intro w; go_simp; try with_reducible rfl)
                        change wpAny _ _ _ _ _ _ (Act.put _ (some 101) _) _
                        (try simp only [Act.put, List.setIfInBounds_toArray, List.set_cons_zero, List.set_cons_succ])
                        refine wpAny_take (i := 16) (v := ?_) rfl (by kernel_rfl) (by kernel_rfl) (by kernel_rfl) (fun _ _ _ h => h) (Or.inl ⟨by kernel_rfl, ?_⟩) ?_
                        rotate_left
                        · (intro w; go_simp; try with_reducible rfl)
                        change wpAny _ _ _ _ _ _ (Act.put _ (some 102) _) _
                        (try simp only [Act.put, List.setIfInBounds_toArray, List.set_cons_zero, List.set_cons_succ])
                        refine wpAny_take (i := 17) (v := ?_) rfl (by kernel_rfl) (by kernel_rfl) (by kernel_rfl) (fun _ _ _ h => h) (Or.inl ⟨by kernel_rfl, ?_⟩) ?_
                        rotate_left
                        · (intro w; go_simp; try with_reducible rfl)
                        change wpAny _ _ _ _ _ _ (Act.put _ (some 103) _) _
                        (try simp only [Act.put, List.setIfInBounds_toArray, List.set_cons_zero, List.set_cons_succ])
                        refine wpAny_take (i := 18) (v := ?_) rfl (by kernel_rfl) (by kernel_rfl) (by kernel_rfl) (fun _ _ _ h => h) (Or.inl ⟨by kernel_rfl, ?_⟩) ?_
                        rotate_left
                        · (intro w; go_simp; try with_reducible rfl)
                        change wpAny _ _ _ _ _ _ (Act.put _ (some 6) _) _
                        (try simp only [Act.put, List.setIfInBounds_toArray, List.set_cons_zero, List.set_cons_succ])
                        refine wpAny_done (by kernel_rfl) ?_ _
                        (try simp only [Act.put, List.setIfInBounds_toArray, List.set_cons_zero, List.set_cons_succ])
                        go_wp2_with fail
                        go_ret
                        exact ⟨by first | rfl | (simp; done), hC'.out.below⟩
                      exact AllReady.nil
                    refine AllReady.cons rfl (fun K hK => ?_) ?_
                    · go_simp
                      (try (refine hK _ _ ?_; clear hK K))
                      (try simp only [Act.put, List.setIfInBounds_toArray, List.set_cons_zero, List.set_cons_succ])
                      refine wpAny_take (i := 15) (v := ?_) rfl (by kernel_rfl) (by kernel_rfl) (by kernel_rfl) (fun _ _ _ h => h) (Or.inl ⟨by kernel_rfl, ?_⟩) ?_
                      rotate_left
                      · (intro w; go_simp; try with_reducible rfl)
                      change wpAny _ _ _ _ _ _ (Act.put _ (some 101) _) _
                      (try simp only [Act.put, List.setIfInBounds_toArray, List.set_cons_zero, List.set_cons_succ])
                      refine wpAny_ready (rs := [5]) (by kernel_rfl) (by simp) ?_
                      refine AllReady.cons rfl (fun K hK => ?_) ?_
                      · go_simp
                        (try (refine hK _ _ ?_; clear hK K))
                        (try simp only [Act.put, List.setIfInBounds_toArray, List.set_cons_zero, List.set_cons_succ])
                        refine wpAny_take (i := 16) (v := ?_) rfl (by kernel_rfl) (by kernel_rfl) (by kernel_rfl) (fun _ _ _ h => h) (Or.inl ⟨by kernel_rfl, ?_⟩) ?_
                        rotate_left
                        · (intro w; go_simp; try with_reducible rfl)
                        change wpAny _ _ _ _ _ _ (Act.put _ (some 102) _) _
                        (try simp only [Act.put, List.setIfInBounds_toArray, List.set_cons_zero, List.set_cons_succ])
                        refine wpAny_take (i := 17) (v := ?_) rfl (by kernel_rfl) (by kernel_rfl) (by kernel_rfl) (fun _ _ _ h => h) (Or.inl ⟨by kernel_rfl, ?_⟩) ?_
                        rotate_left
                        · (intro w; go_simp; try with_reducible rfl)
                        change wpAny _ _ _ _ _ _ (Act.put _ (some 103) _) _
                        (try simp only [Act.put, List.setIfInBounds_toArray, List.set_cons_zero, List.set_cons_succ])
                        refine wpAny_take (i := 18) (v := ?_) rfl (by kernel_rfl) (by kernel_rfl) (by kernel_rfl) (fun _ _ _ h => h) (Or.inl ⟨by kernel_rfl, ?_⟩) ?_
                        rotate_left
                        · (intro w; go_simp; try with_reducible rfl)
                        change wpAny _ _ _ _ _ _ (Act.put _ (some 6) _) _
                        (try simp only [Act.put, List.setIfInBounds_toArray, List.set_cons_zero, List.set_cons_succ])
                        refine wpAny_done (by kernel_rfl) ?_ _
                        (try simp only [Act.put, List.setIfInBounds_toArray, List.set_cons_zero, List.set_cons_succ])
                        go_wp2_with fail
                        go_ret
                        exact ⟨by first | rfl | (simp; done), hC'.out.below⟩
                      exact AllReady.nil
                    exact AllReady.nil
                  exact AllReady.nil
                exact AllReady.nil
              exact AllReady.nil
            exact AllReady.nil
theorem matchExact_row (v0 : Value) (d0 : Dt) (v1 : Value) (d1 : Dt) (v2 : Value) (d2 : Dt) (w : World) (h0 : Reads w (.int .i64) v0 d0) (h1 : Reads w (.sl [.int .u8]) v1 d1) (h2 : Reads w (.sl [.int .u8]) v2 d2) :
    Calls Try.prog 5 #[v0, v1, v2] w fun e w' => e = .returned (.bool true) ∧ Below w.heap.size w w' := by
  obtain ⟨n, rfl, b1, b2⟩ := i64_of_reads h0
  obtain ⟨A, c1, bb, rfl, hB, hl1, hc1⟩ := ns_of_reads h1
  obtain ⟨P, c2, pp, rfl, hP, hl2, hc2⟩ := ns_of_reads h2
  exact matchExact_walk n A P bb pp c1 c2 b1 b2 hl1 hl2 hc1 hc2 w hB hP
end Mt
end Go.Proofs.Ytojgdmpnbgikeaa
