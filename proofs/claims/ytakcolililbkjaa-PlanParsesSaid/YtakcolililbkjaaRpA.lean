/- RpText, RpSame, RpOneK: texts of mine, joined. Conditions: as they state. -/
import Derived.Test.YtakcolililbkjaaPlOpen
import Derived.Test.YtakcolililbkjaaPlWs
import Derived.Laws.StructEq
import Derived.Deep.LoopGhost
import Derived.Deep.CutBlock
import Derived.Deep.DeepCutAuto
import Derived.Test.YtakcolililbkjaaPlSpec
set_option linter.unusedVariables false
set_option linter.unusedSimpArgs false
namespace Go.Proofs.Ytakcolililbkjaa
namespace Rp
open Go.RowKit Tcl Plan Pl
theorem str_eq (s n : List UInt8) : ((bstr s).toList == n) = decide (s = n) := by
  have e : ∀ x : List UInt8, (bstr x).toList = x := fun x => by rw [ByteArray.toList_eq]; rfl
  rw [e]
  by_cases h : s = n
  · rw [decide_eq_true h, h]; simp
  · rw [decide_eq_false h, beq_eq_false_iff_ne]; exact h
/-- What `kind` tells. -/
def kindV (s : List UInt8) : Value := match formOf s with
  | none => .tuple #[.int .i64 (-1), .int .i64 0, .int .i64 0]
  | some (k, lo, hi) => .tuple #[.int .i64 k, .int .i64 lo, .int .i64 (if hi = 1073741824 then 1000000000 else hi : Nat)]
set_option maxRecDepth 100000 in
set_option maxHeartbeats 8000000 in
theorem kind_any (s : List UInt8) (w : World) : Calls Try.prog 35 #[.string (bstr s)] w fun e w' => e = .returned (kindV s) ∧ w = w' := by
  have b0 : ((bstr s).toList == [115, 101, 116]) = decide (s = [115, 101, 116]) := str_eq s [115, 101, 116]
  have b1 : ((bstr s).toList == [115, 112, 97, 119, 110]) = decide (s = [115, 112, 97, 119, 110]) := str_eq s [115, 112, 97, 119, 110]
  have b2 : ((bstr s).toList == [115, 101, 110, 100]) = decide (s = [115, 101, 110, 100]) := str_eq s [115, 101, 110, 100]
  have b3 : ((bstr s).toList == [101, 120, 112, 101, 99, 116]) = decide (s = [101, 120, 112, 101, 99, 116]) := str_eq s [101, 120, 112, 101, 99, 116]
  have b4 : ((bstr s).toList == [109, 97, 116, 99, 104, 95, 109, 97, 120]) = decide (s = [109, 97, 116, 99, 104, 95, 109, 97, 120]) := str_eq s [109, 97, 116, 99, 104, 95, 109, 97, 120]
  have b5 : ((bstr s).toList == [115, 108, 101, 101, 112]) = decide (s = [115, 108, 101, 101, 112]) := str_eq s [115, 108, 101, 101, 112]
  have b6 : ((bstr s).toList == [99, 108, 111, 115, 101]) = decide (s = [99, 108, 111, 115, 101]) := str_eq s [99, 108, 111, 115, 101]
  have b7 : ((bstr s).toList == [101, 120, 105, 116]) = decide (s = [101, 120, 105, 116]) := str_eq s [101, 120, 105, 116]
  have b8 : ((bstr s).toList == [101, 120, 112, 95, 99, 111, 110, 116, 105, 110, 117, 101]) = decide (s = [101, 120, 112, 95, 99, 111, 110, 116, 105, 110, 117, 101]) := str_eq s [101, 120, 112, 95, 99, 111, 110, 116, 105, 110, 117, 101]
  obtain ⟨Z, hZ⟩ : ∃ Z, bstr s = Z := ⟨_, rfl⟩
  rw [hZ] at b0 b1 b2 b3 b4 b5 b6 b7 b8 ⊢
  by_cases h0 : s = [115, 101, 116]
  · have hv : kindV s = .tuple #[.int .i64 0, .int .i64 2, .int .i64 2] := by rw [h0]; rfl
    rw [hv]
    rw [decide_eq_true h0] at b0
    clear hv hZ h0 b1 b2 b3 b4 b5 b6 b7 b8
    go_enter Try.func35, Try.ntmps35
    go_wp2_with fail
    (try rw [Exit.noGoto_ret])
    go_ret3
    exact ⟨rfl, rfl⟩
  rw [decide_eq_false h0] at b0
  by_cases h1 : s = [115, 112, 97, 119, 110]
  · have hv : kindV s = .tuple #[.int .i64 1, .int .i64 1, .int .i64 1000000000] := by rw [h1]; rfl
    rw [hv]
    rw [decide_eq_true h1] at b1
    clear hv hZ h1 b2 b3 b4 b5 b6 b7 b8
    go_enter Try.func35, Try.ntmps35
    go_wp2_with fail
    (try rw [Exit.noGoto_ret])
    go_ret3
    exact ⟨rfl, rfl⟩
  rw [decide_eq_false h1] at b1
  by_cases h2 : s = [115, 101, 110, 100]
  · have hv : kindV s = .tuple #[.int .i64 2, .int .i64 1, .int .i64 1] := by rw [h2]; rfl
    rw [hv]
    rw [decide_eq_true h2] at b2
    clear hv hZ h2 b3 b4 b5 b6 b7 b8
    go_enter Try.func35, Try.ntmps35
    go_wp2_with fail
    (try rw [Exit.noGoto_ret])
    go_ret3
    exact ⟨rfl, rfl⟩
  rw [decide_eq_false h2] at b2
  by_cases h3 : s = [101, 120, 112, 101, 99, 116]
  · have hv : kindV s = .tuple #[.int .i64 3, .int .i64 1, .int .i64 1000000000] := by rw [h3]; rfl
    rw [hv]
    rw [decide_eq_true h3] at b3
    clear hv hZ h3 b4 b5 b6 b7 b8
    go_enter Try.func35, Try.ntmps35
    go_wp2_with fail
    (try rw [Exit.noGoto_ret])
    go_ret3
    exact ⟨rfl, rfl⟩
  rw [decide_eq_false h3] at b3
  by_cases h4 : s = [109, 97, 116, 99, 104, 95, 109, 97, 120]
  · have hv : kindV s = .tuple #[.int .i64 4, .int .i64 1, .int .i64 1] := by rw [h4]; rfl
    rw [hv]
    rw [decide_eq_true h4] at b4
    clear hv hZ h4 b5 b6 b7 b8
    go_enter Try.func35, Try.ntmps35
    go_wp2_with fail
    (try rw [Exit.noGoto_ret])
    go_ret3
    exact ⟨rfl, rfl⟩
  rw [decide_eq_false h4] at b4
  by_cases h5 : s = [115, 108, 101, 101, 112]
  · have hv : kindV s = .tuple #[.int .i64 5, .int .i64 1, .int .i64 1] := by rw [h5]; rfl
    rw [hv]
    rw [decide_eq_true h5] at b5
    clear hv hZ h5 b6 b7 b8
    go_enter Try.func35, Try.ntmps35
    go_wp2_with fail
    (try rw [Exit.noGoto_ret])
    go_ret3
    exact ⟨rfl, rfl⟩
  rw [decide_eq_false h5] at b5
  by_cases h6 : s = [99, 108, 111, 115, 101]
  · have hv : kindV s = .tuple #[.int .i64 6, .int .i64 0, .int .i64 0] := by rw [h6]; rfl
    rw [hv]
    rw [decide_eq_true h6] at b6
    clear hv hZ h6 b7 b8
    go_enter Try.func35, Try.ntmps35
    go_wp2_with fail
    (try rw [Exit.noGoto_ret])
    go_ret3
    exact ⟨rfl, rfl⟩
  rw [decide_eq_false h6] at b6
  by_cases h7 : s = [101, 120, 105, 116]
  · have hv : kindV s = .tuple #[.int .i64 7, .int .i64 0, .int .i64 1] := by rw [h7]; rfl
    rw [hv]
    rw [decide_eq_true h7] at b7
    clear hv hZ h7 b8
    go_enter Try.func35, Try.ntmps35
    go_wp2_with fail
    (try rw [Exit.noGoto_ret])
    go_ret3
    exact ⟨rfl, rfl⟩
  rw [decide_eq_false h7] at b7
  by_cases h8 : s = [101, 120, 112, 95, 99, 111, 110, 116, 105, 110, 117, 101]
  · have hv : kindV s = .tuple #[.int .i64 8, .int .i64 0, .int .i64 0] := by rw [h8]; rfl
    rw [hv]
    rw [decide_eq_true h8] at b8
    clear hv hZ h8
    go_enter Try.func35, Try.ntmps35
    go_wp2_with fail
    (try rw [Exit.noGoto_ret])
    go_ret3
    exact ⟨rfl, rfl⟩
  rw [decide_eq_false h8] at b8
  have hv : kindV s = .tuple #[.int .i64 (-1), .int .i64 0, .int .i64 0] := by
    have hf : formOf s = none := by
      unfold formOf formL Plan.look
      rw [if_neg h0]
      rw [Plan.look, if_neg h1]
      rw [Plan.look, if_neg h2]
      rw [Plan.look, if_neg h3]
      rw [Plan.look, if_neg h4]
      rw [Plan.look, if_neg h5]
      rw [Plan.look, if_neg h6]
      rw [Plan.look, if_neg h7]
      rw [Plan.look, if_neg h8]
      rfl
    unfold kindV; rw [hf]
  rw [hv]
  clear hv hZ h0 h1 h2 h3 h4 h5 h6 h7 h8
  go_enter Try.func35, Try.ntmps35
  go_wp2_with fail
  (try rw [Exit.noGoto_ret])
  go_ret3
  exact ⟨rfl, rfl⟩
set_option maxRecDepth 100000 in
set_option maxHeartbeats 8000000 in
theorem text_any (w : World) (wd : Word) (A : Option Addr) (c : Nat) (hp : PartsAt w (.slice A wd.parts.length c) wd.parts) :
    Calls Try.prog 34 #[wordV wd A c] w fun e w' => e = .returned (oneV wd) ∧ Chg [] w w' := by
  obtain ⟨at_, kind, ps⟩ := wd
  unfold wordV oneV
  simp only at hp ⊢
  have hC : Chg [] w (w.alloc (.cells #[.int .i64 at_, .int .i64 kind, .slice A ps.length c] 38)) := (Chg.refl [] w).alloc _
  have k0 : ((kind : Int) == 2) = decide (kind = 2) := by
    by_cases h : kind = 2
    · subst h; rfl
    · rw [decide_eq_false h, beq_eq_false_iff_ne]; omega
  by_cases hk : kind = 2
  · have e0 : oneT ⟨at_, kind, ps⟩ = none := by
      unfold oneT
      split
      · simp [hk]
      · rfl
    rw [e0]
    have k1 : ((kind : Int) == 2) = true := by rw [k0, decide_eq_true hk]
    obtain ⟨n, hn⟩ : ∃ n, ps.length = n := ⟨_, rfl⟩
    rw [hn] at hC ⊢
    replace hC := Lib.hid hC
    clear hp e0 k0 hk hn
    go_enter Try.func34, Try.ntmps34
    go_wp2_with fail
    (try rw [Exit.noGoto_ret])
    go_ret2
    exact ⟨rfl, hC.out⟩
  have k1 : ((kind : Int) == 2) = false := by rw [k0, decide_eq_false hk]
  clear k0
  match ps, hp, hC with
  | [], hp, hC =>
    have e0 : oneT ⟨at_, kind, []⟩ = none := rfl
    rw [e0]
    simp only [List.length_nil] at hC ⊢
    replace hC := Lib.hid hC
    clear hp e0 hk
    go_enter Try.func34, Try.ntmps34
    go_wp2_with fail
    (try rw [Exit.noGoto_ret])
    go_ret2
    exact ⟨rfl, hC.out⟩
  | p :: q :: r, hp, hC =>
    have e0 : oneT ⟨at_, kind, p :: q :: r⟩ = none := rfl
    rw [e0]
    obtain ⟨n, hn⟩ : ∃ n, (p :: q :: r).length = n := ⟨_, rfl⟩
    have hn2 : ((n : Int) != 1) = true := by simp only [List.length_cons] at hn; simp; omega
    rw [hn] at hC ⊢
    replace hC := Lib.hid hC
    clear hp e0 hn hk
    go_enter Try.func34, Try.ntmps34
    go_wp2_with fail
    (try rw [Exit.noGoto_ret])
    go_ret2
    exact ⟨rfl, hC.out⟩
  | [p], hp, hC =>
    obtain ⟨b, o, rfl, hr⟩ := parts_at hp (by simp)
    obtain ⟨c0, c1⟩ := hr 0 p rfl
    replace c0 := hC.cell c0 (by simp)
    replace c1 := hC.cell c1 (by simp)
    obtain ⟨var, s⟩ := p
    simp only [Nat.zero_mul, Nat.add_zero, Nat.zero_add, List.length_singleton] at c0 c1 hC ⊢
    obtain ⟨Z, hZ⟩ : ∃ Z, bstr s = Z := ⟨_, rfl⟩
    cases var with
    | true =>
      have e0 : oneT ⟨at_, kind, [⟨true, s⟩]⟩ = none := by unfold oneT; simp
      rw [e0]
      replace hC := Lib.hid hC
      clear hp hr e0 hk
      go_enter Try.func34, Try.ntmps34
      go_wp2_with fail
      (try rw [Exit.noGoto_ret])
      go_ret2
      exact ⟨rfl, hC.out⟩
    | false =>
      have e0 : oneT ⟨at_, kind, [⟨false, s⟩]⟩ = some s := by unfold oneT; simp [hk]
      rw [e0]
      simp only [Option.getD_some, Option.isSome_some]
      rw [hZ] at c1 ⊢
      replace hC := Lib.hid hC
      clear hp hr e0 hk
      go_enter Try.func34, Try.ntmps34
      go_wp2_with fail
      (try rw [Exit.noGoto_ret])
      go_ret2
      exact ⟨rfl, hC.out⟩
/-- What `flag` tells. -/
def flagI (wd : Word) : Int := match flagged wd with | none => -1 | some k => k
set_option maxRecDepth 100000 in
set_option maxHeartbeats 8000000 in
theorem flag_any (w : World) (wd : Word) (A : Option Addr) (c : Nat) (hp : PartsAt w (.slice A wd.parts.length c) wd.parts) :
    Calls Try.prog 48 #[wordV wd A c] w fun e w' => e = .returned (.int .i64 (flagI wd)) ∧ Chg [] w w' := by
  have hC : Chg [] w (w.alloc (.cells #[.int .i64 wd.at_, .int .i64 wd.kind, .slice A wd.parts.length c] 38)) := (Chg.refl [] w).alloc _
  have h1 := Lib.hid (fun W (hc : Chg [] w W) => text_any W wd A c (hp.chg hc (fun _ _ _ => by simp)))
  unfold oneV at h1
  obtain ⟨s, hs⟩ : ∃ s, (oneT wd).getD [] = s := ⟨_, rfl⟩
  obtain ⟨o, ho⟩ : ∃ o, (oneT wd).isSome = o := ⟨_, rfl⟩
  rw [hs, ho] at h1
  have k0 : ((wd.kind : Int) != 0) = !decide (wd.kind = 0) := by
    by_cases h : wd.kind = 0
    · rw [h]; rfl
    · rw [decide_eq_false h]; simp; omega
  obtain ⟨z, hz⟩ : ∃ z, decide (wd.kind = 0) = z := ⟨_, rfl⟩
  have hF : flagI wd = if o && z then (match flagOf s with | none => -1 | some k => (k : Int)) else -1 := by
    unfold flagI flagged
    cases hw : oneT wd with
    | none => rw [hw] at ho; simp at ho; subst ho; rfl
    | some s0 =>
      rw [hw] at ho hs
      simp at ho hs
      subst ho hs
      rw [← hz]
      by_cases h0 : wd.kind = 0
      · simp [h0]
      · simp [h0]
  obtain ⟨F, hFF⟩ : ∃ F, flagI wd = F := ⟨_, rfl⟩
  rw [hFF] at hF ⊢
  rw [hz] at k0
  have b0 : ((bstr s).toList == [45, 101, 120, 97, 99, 116]) = decide (s = [45, 101, 120, 97, 99, 116]) := str_eq s [45, 101, 120, 97, 99, 116]
  have b1 : ((bstr s).toList == [45, 103, 108, 111, 98]) = decide (s = [45, 103, 108, 111, 98]) := str_eq s [45, 103, 108, 111, 98]
  have b2 : ((bstr s).toList == [116, 105, 109, 101, 111, 117, 116]) = decide (s = [116, 105, 109, 101, 111, 117, 116]) := str_eq s [116, 105, 109, 101, 111, 117, 116]
  have b3 : ((bstr s).toList == [101, 111, 102]) = decide (s = [101, 111, 102]) := str_eq s [101, 111, 102]
  obtain ⟨Z, hZ⟩ : ∃ Z, bstr s = Z := ⟨_, rfl⟩
  rw [hZ] at h1 b0 b1 b2 b3
  obtain ⟨n, hn⟩ : ∃ n, wd.parts.length = n := ⟨_, rfl⟩
  obtain ⟨kd, hkd⟩ : ∃ kd, wd.kind = kd := ⟨_, rfl⟩
  obtain ⟨at_, hat⟩ : ∃ at_, wd.at_ = at_ := ⟨_, rfl⟩
  unfold wordV at h1 ⊢
  rw [hn, hkd, hat] at hC h1 ⊢
  rw [hkd] at k0
  have hB := Lib.hid (blk_new w (.cells #[.int .i64 at_, .int .i64 kd, .slice A n c] 38))
  replace hC := Lib.hid hC
  replace hF := Lib.hid hF
  replace b0 := Lib.hid b0
  replace b1 := Lib.hid b1
  replace b2 := Lib.hid b2
  replace b3 := Lib.hid b3
  clear hs ho hp hZ hn hkd hat hFF
  go_enter Try.func48, Try.ntmps48
  go_wp2_with fail
  refine (h1.out _ hC.out).mono ?_
  rintro e w2 ⟨rfl, hC1⟩
  replace hB := Lib.hid (hC1.heap hB.out (by simp))
  replace hC := Lib.hid (hC.out.trans hC1)
  have c1 : w2.cell? ⟨w.heap.size, 1, none⟩ = some (.int .i64 kd) := by simp [World.cell?, hB.out]
  clear hC1 h1
  cases o with
  | false =>
    obtain rfl : F = -1 := hF.out
    clear hF k0
    go_wp2_with fail
    (try rw [Exit.noGoto_ret])
    go_ret
    exact ⟨rfl, hC.out⟩
  | true =>
    cases z with
    | false =>
      obtain rfl : F = -1 := hF.out
      clear hF
      go_wp2_with fail
      (try rw [Exit.noGoto_ret])
      go_ret
      exact ⟨rfl, hC.out⟩
    | true =>
      have hF2 : F = (match flagOf s with | none => -1 | some k => (k : Int)) := hF.out
      by_cases h0 : s = [45, 101, 120, 97, 99, 116]
      · have hv : F = 0 := by rw [hF2, h0]; rfl
        subst hv
        have d0 := b0.out.trans (decide_eq_true h0)
        clear hF hF2 h0 b0 b1 b2 b3
        go_wp2_with fail
        (try rw [Exit.noGoto_ret])
        go_ret
        exact ⟨rfl, hC.out⟩
      by_cases h1 : s = [45, 103, 108, 111, 98]
      · have hv : F = 1 := by rw [hF2, h1]; rfl
        subst hv
        have d0 := b0.out.trans (decide_eq_false h0)
        have d1 := b1.out.trans (decide_eq_true h1)
        clear hF hF2 h1 b0 b1 b2 b3
        go_wp2_with fail
        (try rw [Exit.noGoto_ret])
        go_ret
        exact ⟨rfl, hC.out⟩
      by_cases h2 : s = [116, 105, 109, 101, 111, 117, 116]
      · have hv : F = 2 := by rw [hF2, h2]; rfl
        subst hv
        have d0 := b0.out.trans (decide_eq_false h0)
        have d1 := b1.out.trans (decide_eq_false h1)
        have d2 := b2.out.trans (decide_eq_true h2)
        clear hF hF2 h2 b0 b1 b2 b3
        go_wp2_with fail
        (try rw [Exit.noGoto_ret])
        go_ret
        exact ⟨rfl, hC.out⟩
      by_cases h3 : s = [101, 111, 102]
      · have hv : F = 3 := by rw [hF2, h3]; rfl
        subst hv
        have d0 := b0.out.trans (decide_eq_false h0)
        have d1 := b1.out.trans (decide_eq_false h1)
        have d2 := b2.out.trans (decide_eq_false h2)
        have d3 := b3.out.trans (decide_eq_true h3)
        clear hF hF2 h3 b0 b1 b2 b3
        go_wp2_with fail
        (try rw [Exit.noGoto_ret])
        go_ret
        exact ⟨rfl, hC.out⟩
      have hv : F = -1 := by
        have hf : flagOf s = none := by
          unfold flagOf flagL Plan.look
          rw [if_neg h0]
          rw [Plan.look, if_neg h1]
          rw [Plan.look, if_neg h2]
          rw [Plan.look, if_neg h3]
          rfl
        rw [hF2, hf]
      subst hv
      have d0 := b0.out.trans (decide_eq_false h0)
      have d1 := b1.out.trans (decide_eq_false h1)
      have d2 := b2.out.trans (decide_eq_false h2)
      have d3 := b3.out.trans (decide_eq_false h3)
      clear hF hF2 b0 b1 b2 b3
      go_wp2_with fail
      (try rw [Exit.noGoto_ret])
      go_ret
      exact ⟨rfl, hC.out⟩
set_option maxRecDepth 100000 in
set_option maxHeartbeats 8000000 in
theorem inner_any (w : World) (wd : Word) (A : Option Addr) (c : Nat) (hp : PartsAt w (.slice A wd.parts.length c) wd.parts) (hl : wd.parts.length ≤ 1) :
    Calls Try.prog 37 #[wordV wd A c] w fun e w' => e = .returned (.string (bstr (openT wd))) ∧ Chg [] w w' := by
  obtain ⟨at_, kind, ps⟩ := wd
  unfold wordV
  simp only at hp hl ⊢
  have hC : Chg [] w (w.alloc (.cells #[.int .i64 at_, .int .i64 kind, .slice A ps.length c] 38)) := (Chg.refl [] w).alloc _
  match ps, hp, hC, hl with
  | [], hp, hC, _ =>
    have e0 : openT ⟨at_, kind, []⟩ = [] := rfl
    rw [e0]
    replace hC := Lib.hid hC
    clear hp
    go_enter Try.func37, Try.ntmps37
    go_wp2_with fail
    (try rw [Exit.noGoto_ret])
    go_ret
    exact ⟨rfl, hC.out⟩
  | [p], hp, hC, _ =>
    have e0 : openT ⟨at_, kind, [p]⟩ = p.s := by unfold openT; simp
    rw [e0]
    obtain ⟨b, o, rfl, hr⟩ := parts_at hp (by simp)
    obtain ⟨c0, c1⟩ := hr 0 p rfl
    replace c0 := hC.cell c0 (by simp)
    replace c1 := hC.cell c1 (by simp)
    simp only [Nat.zero_mul, Nat.add_zero, Nat.zero_add, List.length_singleton] at c0 c1 hC ⊢
    obtain ⟨Z, hZ⟩ : ∃ Z, bstr p.s = Z := ⟨_, rfl⟩
    rw [hZ] at c1 ⊢
    replace hC := Lib.hid hC
    clear hp hr e0 hZ
    go_enter Try.func37, Try.ntmps37
    go_wp2_with fail
    (try rw [Exit.noGoto_ret])
    go_ret
    exact ⟨rfl, hC.out⟩
theorem results_cell1 {P : Program} {fn : Func} {p : Tmp} {ty : TypeId} (h : fn.results = #[.cell p ty]) (tmps : Array Value) (w : World) (g : Nat) (t : TypeId) (cs : Array Value) (d : TypeDesc)
    (hp : tmps.getD p undef = .pointer (some ⟨g, 0, none⟩)) (hg : w.heap[g]? = some (.cells cs t (0, 0)))
    (hu : P.underlying ty = some d) (hd : (match d with | .struct _ | .array _ _ => true | _ => false) = true) (hi : (P.info? ty).map (·.size) = some cs.size) :
    (results fn tmps).run P w = .ok (.agg cs) w := by
  have hp' : tmps[p]?.getD undef = .pointer (some ⟨g, 0, none⟩) := by simpa using hp
  simp [results, h, hp', asAddr, run_loadVar_row w g t ty cs (0, 0) d hg hu hd hi, Result.andThen]
set_option maxRecDepth 100000 in
set_option maxHeartbeats 8000000 in
theorem moved_any (w : World) (at_ kd : Nat) (A : Option Addr) (n c : Nat) (by_ : Nat) (h1 : at_ + by_ ≤ 1099511627776) :
    Calls Try.prog 36 #[.agg #[.int .i64 at_, .int .i64 kd, .slice A n c], .int .i64 by_] w fun e w' => e = .returned (.agg #[.int .i64 ((at_ + by_ : Nat) : Int), .int .i64 kd, .slice A n c]) ∧ Chg [] w w' := by
  have hw1 : IntKind.i64.wrap ((at_ : Int) + (by_ : Int)) = ((at_ + by_ : Nat) : Int) := by rw [IntWalk.i64_in _ (by omega)]; omega
  obtain ⟨z, hz⟩ : ∃ z, at_ + by_ = z := ⟨_, rfl⟩
  rw [hz] at hw1 ⊢
  have hB := blk_new (w.alloc (.cells #[.int .i64 z, .int .i64 kd, .slice A n c] 38)) (.cells #[.int .i64 z, .int .i64 kd, .slice A n c] 38)
  have hs : (w.alloc (.cells #[.int .i64 z, .int .i64 kd, .slice A n c] 38)).heap.size = w.heap.size + 1 := Array.size_push ..
  rw [hs] at hB
  have hC := Lib.hid (((Chg.refl [] w).alloc (.cells #[.int .i64 z, .int .i64 kd, .slice A n c] 38)).alloc (.cells #[.int .i64 z, .int .i64 kd, .slice A n c] 38))
  replace hB := Lib.hid hB
  clear hs hz h1
  go_enter Try.func36, Try.ntmps36
  go_wp2_with fail
  refine bodyPost_ret (v := .agg #[.int .i64 z, .int .i64 kd, .slice A n c]) ?_ rfl ⟨rfl, hC.out⟩
  exact results_cell1 rfl _ _ _ 38 _ _ rfl hB.out Try.underlying38 rfl (by kernel_rfl)
end Rp
end Go.Proofs.Ytakcolililbkjaa
namespace Go.Proofs.Ytakcolililbkjaa
namespace Rp
open Go.RowKit Tcl Plan Pl
theorem parts_cell {w : World} {A : Option Addr} {n c : Nat} {ps : List Part} (h : PartsAt w (.slice A n c) ps) {k : Nat} {p : Part} (hk : ps[k]? = some p) :
    ∃ b o, A = some ⟨b, o, none⟩ ∧ w.cell? ⟨b, o + k * 2, none⟩ = some (.bool p.var) ∧ w.cell? ⟨b, o + k * 2 + 1, none⟩ = some (.string (bstr p.s)) := by
  have hkl := (List.getElem?_eq_some_iff.1 hk).1
  obtain ⟨b, o, h1, h2⟩ := parts_at h (by omega)
  have h3 := h2 k p hk
  rw [← Nat.add_assoc] at h3
  exact ⟨b, o, h1, h3⟩
theorem parts_max {w : World} {A : Option Addr} {n c : Nat} {ps : List Part} (h : PartsAt w (.slice A n c) ps) : n ≤ 9223372036854775807 := by
  obtain ⟨A0, c0, e, j0, j1, j2, -⟩ := h
  simp only [Value.slice.injEq] at e
  obtain ⟨-, h1, rfl⟩ := e
  unfold maxLen at j2; omega
set_option maxRecDepth 100000 in
set_option maxHeartbeats 8000000 in
theorem sameWord_any (w : World) (a1 a2 kd : Nat) (ps : List Part) (A B : Option Addr) (c d : Nat) (h1 : PartsAt w (.slice A ps.length c) ps) (h2 : PartsAt w (.slice B ps.length d) ps) :
    Calls Try.prog 39 #[.agg #[.int .i64 a1, .int .i64 kd, .slice A ps.length c], .agg #[.int .i64 a2, .int .i64 kd, .slice B ps.length d]] w fun e w' => e = .returned (.bool true) ∧ Chg [] w w' := by
  have hn9 := parts_max h1
  obtain ⟨n, hn⟩ : ∃ n, ps.length = n := ⟨_, rfl⟩
  rw [hn] at h1 h2 hn9 ⊢
  have hB1 := blk_alloc (blk_new w (.cells #[.int .i64 a1, .int .i64 kd, .slice A n c] 38)) (.cells #[.int .i64 a2, .int .i64 kd, .slice B n d] 38)
  have hB2 := blk_new (w.alloc (.cells #[.int .i64 a1, .int .i64 kd, .slice A n c] 38)) (.cells #[.int .i64 a2, .int .i64 kd, .slice B n d] 38)
  have hs : (w.alloc (.cells #[.int .i64 a1, .int .i64 kd, .slice A n c] 38)).heap.size = w.heap.size + 1 := Array.size_push ..
  rw [hs] at hB2
  have hC := Lib.hid (((Chg.refl [] w).alloc (.cells #[.int .i64 a1, .int .i64 kd, .slice A n c] 38)).alloc (.cells #[.int .i64 a2, .int .i64 kd, .slice B n d] 38))
  obtain ⟨g, hg⟩ : ∃ g, w.heap.size = g := ⟨_, rfl⟩
  rw [hg] at hB1 hB2
  replace hB1 := Lib.hid hB1
  replace hB2 := Lib.hid hB2
  replace h1 := Lib.hid h1
  replace h2 := Lib.hid h2
  replace hn := Lib.hid hn
  have hbe : ((n : Int) != (n : Int)) = false := by simp
  clear hs
  go_enter Try.func39, Try.ntmps39
  go_upto_region 1 with fail
  (try rw [hg])
  generalize World.alloc _ _ = w1 at hB1 hB2 hC ⊢
  have x1 : w1.cell? ⟨g, 1, none⟩ = some (.int .i64 kd) := by simp [World.cell?, hB1.out]
  have x2 : w1.cell? ⟨g, 2, none⟩ = some (.slice A n c) := by simp [World.cell?, hB1.out]
  have y1 : w1.cell? ⟨g + 1, 1, none⟩ = some (.int .i64 kd) := by simp [World.cell?, hB2.out]
  have y2 : w1.cell? ⟨g + 1, 2, none⟩ = some (.slice B n d) := by simp [World.cell?, hB2.out]
  go_wp2_with fail
  go_loopg [5] n (fun gk v5 wr => ∃ i : Nat, v5 = .int .i64 i ∧ i ≤ n ∧ gk = n - i ∧ Hid (Chg [] w1 wr))
  case atStart => exact ⟨0, rfl, by omega, rfl, Lib.hid (Chg.refl _ _)⟩
  case round =>
    obtain ⟨i, rfl, hi, rfl, hCr⟩ := hrel
    replace x2 := hCr.out.cell x2 (by simp)
    replace y2 := hCr.out.cell y2 (by simp)
    clear x1 y1
    by_cases hlt : i < n
    · obtain ⟨p, hp⟩ : ∃ p, ps[i]? = some p := ⟨_, List.getElem?_eq_getElem (by have := hn.out; omega)⟩
      obtain ⟨b1, o1, rfl, q0, q1⟩ := parts_cell h1.out hp
      obtain ⟨b2, o2, rfl, r0, r1⟩ := parts_cell h2.out hp
      replace q0 := (hC.out.trans hCr.out).cell q0 (by simp)
      replace q1 := (hC.out.trans hCr.out).cell q1 (by simp)
      replace r0 := (hC.out.trans hCr.out).cell r0 (by simp)
      replace r1 := (hC.out.trans hCr.out).cell r1 (by simp)
      obtain ⟨v, s⟩ := p
      obtain ⟨Z, hZ⟩ : ∃ Z, bstr s = Z := ⟨_, rfl⟩
      simp only [hZ] at q0 q1 r0 r1
      clear hZ hp
      go_wp2_with fail
      go_quiet (fail)
      go_wp2_with fail
      go_roundg (n - (i + 1))
      case measure => omega
      case rel => exact ⟨i + 1, rfl, by omega, rfl, Lib.hid (hCr.out.drewN _)⟩
    · obtain rfl : i = n := by omega
      go_wp2_with fail
      go_ret
      exact ⟨rfl, hC.out.trans hCr.out⟩
theorem ws_cell {w : World} {B : Nat → Prop} {A : Option Addr} {n c : Nat} {ws : List Word} (h : WsV w B A n c ws) {k : Nat} {wd : Word} (hk : ws[k]? = some wd) :
    ∃ b o Ap cp, A = some ⟨b, o, none⟩ ∧ w.cell? ⟨b, o + k * 3, none⟩ = some (.int .i64 wd.at_) ∧ w.cell? ⟨b, o + k * 3 + 1, none⟩ = some (.int .i64 wd.kind) ∧ w.cell? ⟨b, o + k * 3 + 2, none⟩ = some (.slice Ap wd.parts.length cp) ∧ PartsAt w (.slice Ap wd.parts.length cp) wd.parts := by
  obtain ⟨h0, ys, h1, h2, h3⟩ := h
  have hkl := (List.getElem?_eq_some_iff.1 hk).1
  have hl := wordsC.len h3
  obtain ⟨b, o, rfl, hr⟩ := sl_row h1 (by omega)
  obtain ⟨Ap, cp, e1, e2, e3, h4, h5⟩ := wordsC.get h3 hk
  exact ⟨b, o, Ap, cp, rfl, hr _ _ e1, by rw [Nat.add_assoc]; exact hr _ _ e2, by rw [Nat.add_assoc]; exact hr _ _ e3, h4⟩
set_option maxRecDepth 100000 in
set_option maxHeartbeats 8000000 in
theorem rsame_any (w : World) (x y : Nat) (ws : List Word) (B1 B2 : Nat → Prop) (A1 A2 : Option Addr) (n c1 c2 : Nat) (hx : w.cell? ⟨x, 1, none⟩ = some (.slice A1 n c1)) (hy : w.cell? ⟨y, 1, none⟩ = some (.slice A2 n c2)) (h1 : WsV w B1 A1 n c1 ws) (h2 : WsV w B2 A2 n c2 ws) :
    Calls Try.prog 24 #[.slice (some ⟨x, 0, none⟩) 1 1, .slice (some ⟨y, 0, none⟩) 1 1] w fun e w' => e = .returned (.bool true) ∧ Chg [] w w' := by
  have hn := Lib.hid h1.1
  have hn9 := h1.max
  replace hx := Lib.hid hx
  replace hy := Lib.hid hy
  replace h1 := Lib.hid h1
  replace h2 := Lib.hid h2
  have hbe : ((n : Int) != (n : Int)) = false := by simp
  go_enter Try.func24, Try.ntmps24
  go_wp2_with fail
  go_loopg [5] 1 (fun gk v5 wr => ∃ i : Nat, v5 = .int .i64 i ∧ i ≤ 1 ∧ gk = 1 - i ∧ Hid (Chg [] w wr))
  case atStart => exact ⟨0, rfl, by omega, rfl, Lib.hid (Chg.refl _ _)⟩
  case round =>
    obtain ⟨i, rfl, hi, rfl, hC⟩ := hrel
    by_cases hlt : i < 1
    · obtain rfl : i = 0 := by omega
      have q0 := hC.out.cell hx.out (by simp)
      have q1 := hC.out.cell hy.out (by simp)
      go_wp2_with fail
      go_quiet (fail)
      go_wp2_with fail
      have hC0 := Lib.hid (hC.out.drewN nq)
      go_loopg [6] n (fun gk v6 wr => ∃ k : Nat, v6 = .int .i64 k ∧ k ≤ n ∧ gk = n - k ∧ Hid (Chg [] w wr))
      case atStart => exact ⟨0, rfl, by omega, rfl, hC0⟩
      case round =>
        obtain ⟨k, rfl, hk, rfl, hCk⟩ := hrel
        clear q0 q1
        have q0 := hCk.out.cell hx.out (by simp)
        have q1 := hCk.out.cell hy.out (by simp)
        by_cases hkt : k < n
        · obtain ⟨wd, hwd⟩ : ∃ wd, ws[k]? = some wd := ⟨_, List.getElem?_eq_getElem (by have := hn.out; omega)⟩
          obtain ⟨b1, o1, Ap, cp, rfl, u0, u1, u2, hP1⟩ := ws_cell (h1.out.chg hCk.out (fun _ _ _ => by simp)) hwd
          obtain ⟨b2, o2, Aq, cq, rfl, v0, v1, v2, hP2⟩ := ws_cell (h2.out.chg hCk.out (fun _ _ _ => by simp)) hwd
          have hsw := Lib.hid (fun W (hc : Chg [] wr W) => sameWord_any W wd.at_ wd.at_ wd.kind wd.parts Ap Aq cp cq (hP1.chg hc (fun _ _ _ => by simp)) (hP2.chg hc (fun _ _ _ => by simp)))
          obtain ⟨np, hnp⟩ : ∃ np, wd.parts.length = np := ⟨_, rfl⟩
          rw [hnp] at hsw u2 v2
          have y0 := Lib.hid (fun W (hc : Chg [] wr W) => (⟨hc.cell q0 (by simp), hc.cell q1 (by simp)⟩ : W.cell? ⟨x, 1, none⟩ = some (.slice (some ⟨b1, o1, none⟩) n c1) ∧ W.cell? ⟨y, 1, none⟩ = some (.slice (some ⟨b2, o2, none⟩) n c2)))
          have y1 := Lib.hid (fun W (hc : Chg [] wr W) => (⟨hc.cell u0 (by simp), hc.cell u1 (by simp), hc.cell u2 (by simp)⟩ : W.cell? ⟨b1, o1 + k * 3, none⟩ = some (.int .i64 wd.at_) ∧ W.cell? ⟨b1, o1 + k * 3 + 1, none⟩ = some (.int .i64 wd.kind) ∧ W.cell? ⟨b1, o1 + k * 3 + 2, none⟩ = some (.slice Ap np cp)))
          have y2 := Lib.hid (fun W (hc : Chg [] wr W) => (⟨hc.cell v0 (by simp), hc.cell v1 (by simp), hc.cell v2 (by simp)⟩ : W.cell? ⟨b2, o2 + k * 3, none⟩ = some (.int .i64 wd.at_) ∧ W.cell? ⟨b2, o2 + k * 3 + 1, none⟩ = some (.int .i64 wd.kind) ∧ W.cell? ⟨b2, o2 + k * 3 + 2, none⟩ = some (.slice Aq np cq)))
          clear hP1 hP2 hnp hwd u0 u1 u2 v0 v1 v2
          go_wp2_with fail
          refine wp_region_held (S := fun w' => Chg [] wr w') (by kernel_rfl) ?_
          (try (change wpAnyH _ _ _ _ _ _ _ _ (World.drew _)))
          have hHeld : Chg [] wr (World.drew wr) := (Chg.refl _ _).drew
          refine wpAnyH_take (i := 0) (v := ?_) rfl (by kernel_rfl) (by kernel_rfl) (by kernel_rfl) (fun _ _ _ h => h) (Or.inl ⟨by kernel_rfl, ?_⟩) (by exact hHeld) ?_
          rotate_left
          · (intro w hSw; clear hSw; go_simp; try with_reducible rfl)
          change wpAnyH _ _ _ _ _ _ _ (Act.put _ (some 42) _) _
          (try simp only [Act.put, List.setIfInBounds_toArray, List.set_cons_zero, List.set_cons_succ])
          refine wpAnyH_take (i := 1) (v := ?_) rfl (by kernel_rfl) (by kernel_rfl) (by kernel_rfl) (fun _ _ _ h => h) (Or.inl ⟨by kernel_rfl, ?_⟩) (by exact hHeld) ?_
          rotate_left
          · (intro w hSw; clear hSw; go_simp; try with_reducible rfl)
          change wpAnyH _ _ _ _ _ _ _ (Act.put _ (some 43) _) _
          (try simp only [Act.put, List.setIfInBounds_toArray, List.set_cons_zero, List.set_cons_succ])
          refine wpAnyH_take (i := 2) (v := ?_) rfl (by kernel_rfl) (by kernel_rfl) (by kernel_rfl) (fun _ _ _ h => h) (Or.inl ⟨by kernel_rfl, ?_⟩) (by exact hHeld) ?_
          rotate_left
          · (intro w hSw; have hq := y0.out w hSw; clear hSw; (try obtain ⟨hq, hq2, hq3⟩ := hq); go_simp; try with_reducible rfl)
          change wpAnyH _ _ _ _ _ _ _ (Act.put _ (some 44) _) _
          (try simp only [Act.put, List.setIfInBounds_toArray, List.set_cons_zero, List.set_cons_succ])
          refine wpAnyH_take (i := 3) (v := ?_) rfl (by kernel_rfl) (by kernel_rfl) (by kernel_rfl) (fun _ _ _ h => h) (Or.inl ⟨by kernel_rfl, ?_⟩) (by exact hHeld) ?_
          rotate_left
          · (intro w hSw; clear hSw; go_simp; try with_reducible rfl)
          change wpAnyH _ _ _ _ _ _ _ (Act.put _ (some 45) _) _
          (try simp only [Act.put, List.setIfInBounds_toArray, List.set_cons_zero, List.set_cons_succ])
          refine wpAnyH_take (i := 4) (v := ?_) rfl (by kernel_rfl) (by kernel_rfl) (by kernel_rfl) (fun _ _ _ h => h) (Or.inl ⟨by kernel_rfl, ?_⟩) (by exact hHeld) ?_
          rotate_left
          · (intro w hSw; have hq := y0.out w hSw; clear hSw; (try obtain ⟨hq, hq2, hq3⟩ := hq); go_simp; try with_reducible rfl)
          change wpAnyH _ _ _ _ _ _ _ (Act.put _ (some 46) _) _
          (try simp only [Act.put, List.setIfInBounds_toArray, List.set_cons_zero, List.set_cons_succ])
          refine wpAnyH_take (i := 5) (v := ?_) rfl (by kernel_rfl) (by kernel_rfl) (by kernel_rfl) (fun _ _ _ h => h) (Or.inl ⟨by kernel_rfl, ?_⟩) (by exact hHeld) ?_
          rotate_left
          · (intro w hSw; clear hSw; go_simp; try with_reducible rfl)
          change wpAnyH _ _ _ _ _ _ _ (Act.put _ (some 47) _) _
          (try simp only [Act.put, List.setIfInBounds_toArray, List.set_cons_zero, List.set_cons_succ])
          refine wpAnyH_take (i := 6) (v := ?_) rfl (by kernel_rfl) (by kernel_rfl) (by kernel_rfl) (fun _ _ _ h => h) (Or.inl ⟨by kernel_rfl, ?_⟩) (by exact hHeld) ?_
          rotate_left
          · (intro w hSw; have hq := y1.out w hSw; clear hSw; (try obtain ⟨hq, hq2, hq3⟩ := hq); go_simp; try with_reducible rfl)
          change wpAnyH _ _ _ _ _ _ _ (Act.put _ (some 48) _) _
          (try simp only [Act.put, List.setIfInBounds_toArray, List.set_cons_zero, List.set_cons_succ])
          refine wpAnyH_take (i := 7) (v := ?_) rfl (by kernel_rfl) (by kernel_rfl) (by kernel_rfl) (fun _ _ _ h => h) (Or.inl ⟨by kernel_rfl, ?_⟩) (by exact hHeld) ?_
          rotate_left
          · (intro w hSw; have hq := y1.out w hSw; clear hSw; (try obtain ⟨hq, hq2, hq3⟩ := hq); go_simp; try with_reducible rfl)
          change wpAnyH _ _ _ _ _ _ _ (Act.put _ (some 49) _) _
          (try simp only [Act.put, List.setIfInBounds_toArray, List.set_cons_zero, List.set_cons_succ])
          refine wpAnyH_take (i := 8) (v := ?_) rfl (by kernel_rfl) (by kernel_rfl) (by kernel_rfl) (fun _ _ _ h => h) (Or.inl ⟨by kernel_rfl, ?_⟩) (by exact hHeld) ?_
          rotate_left
          · (intro w hSw; clear hSw; go_simp; try with_reducible rfl)
          change wpAnyH _ _ _ _ _ _ _ (Act.put _ (some 50) _) _
          (try simp only [Act.put, List.setIfInBounds_toArray, List.set_cons_zero, List.set_cons_succ])
          refine wpAnyH_take (i := 9) (v := ?_) rfl (by kernel_rfl) (by kernel_rfl) (by kernel_rfl) (fun _ _ _ h => h) (Or.inl ⟨by kernel_rfl, ?_⟩) (by exact hHeld) ?_
          rotate_left
          · (intro w hSw; clear hSw; go_simp; try with_reducible rfl)
          change wpAnyH _ _ _ _ _ _ _ (Act.put _ (some 51) _) _
          (try simp only [Act.put, List.setIfInBounds_toArray, List.set_cons_zero, List.set_cons_succ])
          refine wpAnyH_take (i := 10) (v := ?_) rfl (by kernel_rfl) (by kernel_rfl) (by kernel_rfl) (fun _ _ _ h => h) (Or.inl ⟨by kernel_rfl, ?_⟩) (by exact hHeld) ?_
          rotate_left
          · (intro w hSw; have hq := y0.out w hSw; clear hSw; (try obtain ⟨hq, hq2, hq3⟩ := hq); go_simp; try with_reducible rfl)
          change wpAnyH _ _ _ _ _ _ _ (Act.put _ (some 52) _) _
          (try simp only [Act.put, List.setIfInBounds_toArray, List.set_cons_zero, List.set_cons_succ])
          refine wpAnyH_take (i := 11) (v := ?_) rfl (by kernel_rfl) (by kernel_rfl) (by kernel_rfl) (fun _ _ _ h => h) (Or.inl ⟨by kernel_rfl, ?_⟩) (by exact hHeld) ?_
          rotate_left
          · (intro w hSw; clear hSw; go_simp; try with_reducible rfl)
          change wpAnyH _ _ _ _ _ _ _ (Act.put _ (some 53) _) _
          (try simp only [Act.put, List.setIfInBounds_toArray, List.set_cons_zero, List.set_cons_succ])
          refine wpAnyH_take (i := 12) (v := ?_) rfl (by kernel_rfl) (by kernel_rfl) (by kernel_rfl) (fun _ _ _ h => h) (Or.inl ⟨by kernel_rfl, ?_⟩) (by exact hHeld) ?_
          rotate_left
          · (intro w hSw; have hq := y0.out w hSw; clear hSw; (try obtain ⟨hq, hq2, hq3⟩ := hq); go_simp; try with_reducible rfl)
          change wpAnyH _ _ _ _ _ _ _ (Act.put _ (some 54) _) _
          (try simp only [Act.put, List.setIfInBounds_toArray, List.set_cons_zero, List.set_cons_succ])
          refine wpAnyH_take (i := 13) (v := ?_) rfl (by kernel_rfl) (by kernel_rfl) (by kernel_rfl) (fun _ _ _ h => h) (Or.inl ⟨by kernel_rfl, ?_⟩) (by exact hHeld) ?_
          rotate_left
          · (intro w hSw; clear hSw; go_simp; try with_reducible rfl)
          change wpAnyH _ _ _ _ _ _ _ (Act.put _ (some 55) _) _
          (try simp only [Act.put, List.setIfInBounds_toArray, List.set_cons_zero, List.set_cons_succ])
          refine wpAnyH_take (i := 14) (v := ?_) rfl (by kernel_rfl) (by kernel_rfl) (by kernel_rfl) (fun _ _ _ h => h) (Or.inl ⟨by kernel_rfl, ?_⟩) (by exact hHeld) ?_
          rotate_left
          · (intro w hSw; have hq := y2.out w hSw; clear hSw; (try obtain ⟨hq, hq2, hq3⟩ := hq); go_simp; try with_reducible rfl)
          change wpAnyH _ _ _ _ _ _ _ (Act.put _ (some 56) _) _
          (try simp only [Act.put, List.setIfInBounds_toArray, List.set_cons_zero, List.set_cons_succ])
          refine wpAnyH_take (i := 15) (v := ?_) rfl (by kernel_rfl) (by kernel_rfl) (by kernel_rfl) (fun _ _ _ h => h) (Or.inl ⟨by kernel_rfl, ?_⟩) (by exact hHeld) ?_
          rotate_left
          · (intro w hSw; have hq := y2.out w hSw; clear hSw; (try obtain ⟨hq, hq2, hq3⟩ := hq); go_simp; try with_reducible rfl)
          change wpAnyH _ _ _ _ _ _ _ (Act.put _ (some 57) _) _
          (try simp only [Act.put, List.setIfInBounds_toArray, List.set_cons_zero, List.set_cons_succ])
          refine wpAnyH_all (rs := [16]) (by kernel_rfl) (by simp) ?_
          refine AllReadyH.cons rfl (fun K hK => ?_) ?_
          · go_simp
            go_wp2_with (first
                | (refine (hsw.out _ (by exact hHeld)).mono ?_; rintro e wq ⟨rfl, hCq⟩; have hHeld := hHeld.trans hCq))
            refine hK.out _ _ (by first | exact hHeld | exact Chg.trans hHeld (by assumption) | exact Chg.alloc hHeld _ | exact Chg.alloc hH9 _ | exact (Chg.setCell hHeld (.inr hge) _).setCell (.inr hge) _ | exact (Chg.setCell hHeld (.inl (by simp)) _).setCell (.inl (by simp)) _) (fun hHeld => ?_)
            clear hK K
            (try simp only [Act.put, List.setIfInBounds_toArray, List.set_cons_zero, List.set_cons_succ])
            refine wpAnyH_take (i := 17) (v := ?_) rfl (by kernel_rfl) (by kernel_rfl) (by kernel_rfl) (fun _ _ _ h => h) (Or.inl ⟨by kernel_rfl, ?_⟩) (by exact hHeld) ?_
            rotate_left
            · (intro w hSw; clear hSw; go_simp; try with_reducible rfl)
            change wpAnyH _ _ _ _ _ _ _ (Act.put _ (some 7) _) _
            (try simp only [Act.put, List.setIfInBounds_toArray, List.set_cons_zero, List.set_cons_succ])
            refine wpAnyH_done (by kernel_rfl) ?_ _
            (try simp only [Act.put, List.setIfInBounds_toArray, List.set_cons_zero, List.set_cons_succ])
            have hC9 := Lib.hid (hCk.out.trans hHeld)
            go_wp2_with fail
            go_roundg (n - (k + 1))
            case measure => omega
            case rel => exact ⟨k + 1, rfl, by omega, rfl, hC9⟩
          exact AllReadyH.nil
        · obtain rfl : k = n := by omega
          go_wp2_with fail
          go_roundg (1 - (0 + 1))
          case measure => omega
          case rel => exact ⟨0 + 1, rfl, by omega, rfl, hCk⟩
    · obtain rfl : i = 1 := by omega
      go_wp2_with fail
      go_ret
      exact ⟨rfl, hC.out⟩
set_option maxRecDepth 100000 in
set_option maxHeartbeats 8000000 in
theorem samew_any (w : World) (ws : List Word) (B1 B2 : Nat → Prop) (A1 A2 : Option Addr) (n c1 c2 : Nat) (h1 : WsV w B1 A1 n c1 ws) (h2 : WsV w B2 A2 n c2 ws) :
    Calls Try.prog 18 #[.slice A1 n c1, .slice A2 n c2] w fun e w' => e = .returned (.bool true) ∧ Chg [] w w' := by
  have hn := Lib.hid h1.1
  have hn9 := h1.max
  have hB1 := blk_alloc (blk_new w (.cells #[.int .i64 0, .slice A1 n c1] 69)) (.cells #[.int .i64 0, .slice A2 n c2] 69)
  have hB2 := blk_new (w.alloc (.cells #[.int .i64 0, .slice A1 n c1] 69)) (.cells #[.int .i64 0, .slice A2 n c2] 69)
  have hs : (w.alloc (.cells #[.int .i64 0, .slice A1 n c1] 69)).heap.size = w.heap.size + 1 := Array.size_push ..
  rw [hs] at hB2
  have hC := ((Chg.refl [] w).alloc (.cells #[.int .i64 0, .slice A1 n c1] 69)).alloc (.cells #[.int .i64 0, .slice A2 n c2] 69)
  have hsm := Lib.hid (rsame_any _ w.heap.size (w.heap.size + 1) ws B1 B2 A1 A2 n c1 c2 (by simp only [World.cell?, hB1]; rfl) (by simp only [World.cell?, hB2]; rfl) (h1.chg hC (fun _ _ _ => by simp)) (h2.chg hC (fun _ _ _ => by simp)))
  replace hC := Lib.hid hC
  replace h1 := Lib.hid h1
  replace h2 := Lib.hid h2
  have hbe : ((n : Int) != (n : Int)) = false := by simp
  clear hs hB1 hB2
  go_enter Try.func18, Try.ntmps18
  go_wp2_with fail
  refine hsm.out.mono ?_
  rintro e w1 ⟨rfl, hC1⟩
  replace hC := Lib.hid (hC.out.trans hC1)
  clear hsm hC1
  go_wp2_with fail
  go_loopg [23] n (fun gk v23 wr => ∃ i : Nat, v23 = .int .i64 i ∧ i ≤ n ∧ gk = n - i ∧ Hid (Chg [] w wr))
  case atStart => exact ⟨0, rfl, by omega, rfl, hC⟩
  case round =>
    obtain ⟨i, rfl, hi, rfl, hCr⟩ := hrel
    by_cases hlt : i < n
    · obtain ⟨wd, hwd⟩ : ∃ wd, ws[i]? = some wd := ⟨_, List.getElem?_eq_getElem (by have := hn.out; omega)⟩
      obtain ⟨b1, o1, Ap, cp, rfl, u0, -, -, -⟩ := ws_cell (h1.out.chg hCr.out (fun _ _ _ => by simp)) hwd
      obtain ⟨b2, o2, Aq, cq, rfl, v0, -, -, -⟩ := ws_cell (h2.out.chg hCr.out (fun _ _ _ => by simp)) hwd
      have hbt : ((wd.at_ : Int) != (wd.at_ : Int)) = false := by simp
      clear hwd
      go_wp2_with fail
      go_quiet (fail)
      go_wp2_with fail
      go_roundg (n - (i + 1))
      case measure => omega
      case rel => exact ⟨i + 1, rfl, by omega, rfl, Lib.hid (hCr.out.drewN _)⟩
    · obtain rfl : i = n := by omega
      go_wp2_with fail
      go_ret
      exact ⟨rfl, hCr.out⟩
end Rp
end Go.Proofs.Ytakcolililbkjaa
namespace Go.Proofs.Ytakcolililbkjaa
namespace Plan
open Tcl
theorem command_ev {P : Word → Prop} (hP : ∀ (s : List UInt8) (i : Nat) (c : UInt8) (w : Word) (j : Nat), word s i c = .ok (w, j) → P w) {s : List UInt8} : ∀ (k i : Nat) (ws r : List Word) (j : Nat), s.length - i ≤ k → (∀ w ∈ ws, P w) → command s i ws = .ok (r, j) → ∀ w ∈ r, P w := by
  intro k
  induction k with
  | zero =>
    intro i ws r j hk hw h
    rw [command_none (List.getElem?_eq_none (by omega))] at h
    cases h; exact hw
  | succ k ih =>
    intro i ws r j hk hw h
    cases hc : s[i]? with
    | none => rw [command_none hc] at h; cases h; exact hw
    | some c =>
      have hi := lt_of_some hc
      rw [command_some hc] at h
      split at h
      · cases h; exact hw
      · split at h
        · exact ih _ _ _ _ (by omega) hw h
        · split at h
          · cases h
          · rename_i w j' hwd
            split at h
            · refine ih _ _ _ _ (by omega) (fun x hx => ?_) h
              rcases List.mem_append.1 hx with hx | hx
              · exact hw x hx
              · simp at hx; subst hx; exact hP _ _ _ _ _ hwd
            · cases h
theorem parse_ev' {P : Word → Prop} (hP : ∀ (s : List UInt8) (i : Nat) (c : UInt8) (w : Word) (j : Nat), word s i c = .ok (w, j) → P w) {s : List UInt8} : ∀ (k i : Nat) (l r : List Cmd), s.length - i ≤ k → (∀ c ∈ l, ∀ w ∈ c.words, P w) → parseGo s i l = .ok r → ∀ c ∈ r, ∀ w ∈ c.words, P w := by
  intro k
  induction k with
  | zero =>
    intro i l r hk hl h
    rw [parse_none (List.getElem?_eq_none (by omega))] at h
    cases h; exact hl
  | succ k ih =>
    intro i l r hk hl h
    cases hc : s[i]? with
    | none => rw [parse_none hc] at h; cases h; exact hl
    | some c =>
      have hi := lt_of_some hc
      rw [parse_some hc] at h
      split at h
      · exact ih _ _ _ (by omega) hl h
      · split at h
        · split at h
          · exact ih _ _ _ (by omega) hl h
          · cases h
        · split at h
          · cases h
          · rename_i ws j hcm
            split at h
            · refine ih _ _ _ (by omega) (fun x hx => ?_) h
              rcases List.mem_append.1 hx with hx | hx
              · exact hl x hx
              · simp at hx; subst hx
                exact command_ev hP _ _ _ _ _ (Nat.le_refl _) (by simp) hcm
            · cases h
theorem word_one {s : List UInt8} {i : Nat} {c : UInt8} {w : Word} {j : Nat} (h : word s i c = .ok (w, j)) : w.kind = 2 → w.parts.length ≤ 1 := by
  unfold word at h
  split at h
  · split at h
    · cases h
    · split at h
      · cases h
      · cases h
        intro _
        simp only
        split <;> simp
  · split at h
    · split at h
      · cases h
      · split at h
        · cases h
        · split at h
          · cases h
          · cases h; intro h; simp at h
    · split at h
      · cases h
      · cases h; intro h; simp at h
theorem parse_one {s : List UInt8} {cs : List Cmd} (h : parse s = .ok cs) : ∀ c ∈ cs, ∀ w ∈ c.words, w.kind = 2 → w.parts.length ≤ 1 := by
  unfold parse at h
  split at h
  · cases h
  · exact parse_ev' (P := fun w => w.kind = 2 → w.parts.length ≤ 1) (fun _ _ _ _ _ hw => word_one hw) _ _ _ _ (Nat.le_refl _) (by simp) h
end Plan
end Go.Proofs.Ytakcolililbkjaa
