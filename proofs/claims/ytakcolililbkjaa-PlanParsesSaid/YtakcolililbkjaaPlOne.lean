/- Contracts of package plan's one, open, flagged. Conditions: as they state. -/
import Derived.Test.YtakcolililbkjaaPlRow
import Derived.Test.YtakcolililbkjaaPlMaps
set_option linter.unusedVariables false
set_option linter.unusedSimpArgs false
namespace Go.Proofs.Ytakcolililbkjaa
namespace Pl
open Go.RowKit Tcl Plan
theorem bstr_inj {a b : List UInt8} (h : bstr a = bstr b) : a = b := by
  have := congrArg (fun x : ByteArray => x.data.toList) h
  simpa [bstr] using this
theorem lookB_look {α : Type} (s : List UInt8) (l : List (List UInt8 × α)) (f : α → Value) : lookB (bstr s) (l.map (fun p => (bstr p.1, f p.2))) = (Plan.look s l).map f := by
  induction l with
  | nil => rfl
  | cons p r ih =>
    rw [List.map_cons, lookB, Plan.look]
    by_cases h : s = p.1
    · rw [if_pos h, if_pos (congrArg bstr h)]; rfl
    · rw [if_neg h, if_neg (fun e => h (bstr_inj e)), ih]
/-- A word as a value. -/
abbrev wordV (wd : Word) (A : Option Addr) (c : Nat) : Value := .agg #[.int .i64 wd.at_, .int .i64 wd.kind, .slice A wd.parts.length c]
/-- What `one` tells. -/
def oneV (wd : Word) : Value := .tuple #[.string (bstr ((oneT wd).getD [])), .bool (oneT wd).isSome]
set_option maxRecDepth 100000 in
set_option maxHeartbeats 8000000 in
theorem one_any (w : World) (wd : Word) (A : Option Addr) (c : Nat) (hp : PartsAt w (.slice A wd.parts.length c) wd.parts) :
    Calls Try.prog 26 #[wordV wd A c] w fun e w' => e = .returned (oneV wd) ∧ Chg [] w w' := by
  obtain ⟨at_, kind, ps⟩ := wd
  unfold wordV oneV
  simp only at hp ⊢
  have hC : Chg [] w (w.alloc (.cells #[.int .i64 at_, .int .i64 kind, .slice A ps.length c] 38)) := (Chg.refl [] w).alloc _
  match ps, hp, hC with
  | [], hp, hC =>
    replace hC := Lib.hid hC
    clear hp
    have e0 : oneT ⟨at_, kind, []⟩ = none := rfl
    rw [e0]
    go_enter Try.func26, Try.ntmps26
    go_wp2_with fail
    go_ret2
    exact ⟨rfl, hC.out⟩
  | p :: q :: r, hp, hC =>
    have e0 : oneT ⟨at_, kind, p :: q :: r⟩ = none := rfl
    rw [e0]
    obtain ⟨n, hn⟩ : ∃ n, (p :: q :: r).length = n := ⟨_, rfl⟩
    have hn2 : ((n : Int) != 1) = true := by simp only [List.length_cons] at hn; simp; omega
    rw [hn] at hC ⊢
    replace hC := Lib.hid hC
    clear hp e0 hn
    go_enter Try.func26, Try.ntmps26
    go_wp2_with fail
    go_ret2
    exact ⟨rfl, hC.out⟩
  | [p], hp, hC =>
    obtain ⟨b, o, rfl, hr⟩ := parts_at hp (by simp)
    obtain ⟨c0, c1⟩ := hr 0 p rfl
    replace c0 := hC.cell c0 (by simp)
    replace c1 := hC.cell c1 (by simp)
    obtain ⟨var, s⟩ := p
    simp only [Nat.zero_mul, Nat.add_zero, Nat.zero_add, List.length_singleton] at c0 c1 hC ⊢
    have k0 : ((kind : Int) == 2) = decide (kind = 2) := by
      by_cases h : kind = 2
      · subst h; rfl
      · rw [decide_eq_false h, beq_eq_false_iff_ne]; omega
    obtain ⟨Z, hZ⟩ : ∃ Z, bstr s = Z := ⟨_, rfl⟩
    cases var with
    | true =>
      have e0 : oneT ⟨at_, kind, [⟨true, s⟩]⟩ = none := by unfold oneT; simp
      rw [e0]
      replace hC := Lib.hid hC
      clear hp hr e0
      go_enter Try.func26, Try.ntmps26
      go_wp2_with fail
      go_ret2
      exact ⟨rfl, hC.out⟩
    | false =>
      by_cases hk : kind = 2
      · have e0 : oneT ⟨at_, kind, [⟨false, s⟩]⟩ = none := by unfold oneT; simp [hk]
        rw [e0]
        have k1 : ((kind : Int) == 2) = true := by rw [k0, decide_eq_true hk]
        clear hk
        replace hC := Lib.hid hC
        clear hp hr e0 k0
        go_enter Try.func26, Try.ntmps26
        go_wp2_with fail
        go_ret2
        exact ⟨rfl, hC.out⟩
      · have e0 : oneT ⟨at_, kind, [⟨false, s⟩]⟩ = some s := by unfold oneT; simp [hk]
        rw [e0]
        simp only [Option.getD_some, Option.isSome_some]
        rw [hZ] at c1 ⊢
        have k1 : ((kind : Int) == 2) = false := by rw [k0, decide_eq_false hk]
        clear hk
        replace hC := Lib.hid hC
        clear hp hr e0 k0
        go_enter Try.func26, Try.ntmps26
        go_wp2_with fail
        go_ret2
        exact ⟨rfl, hC.out⟩
set_option maxRecDepth 100000 in
set_option maxHeartbeats 8000000 in
theorem flagged_any (w : World) (wd : Word) (A : Option Addr) (c : Nat) (hp : PartsAt w (.slice A wd.parts.length c) wd.parts) :
    Calls Try.prog 43 #[wordV wd A c] w fun e w' => (∃ k : Int, e = .returned (.tuple #[.int .i64 k, .bool (flagged wd).isSome]) ∧ ∀ j, flagged wd = some j → k = j) ∧ Chg [] w w' := by
  have hC : Chg [] w (w.alloc (.cells #[.int .i64 wd.at_, .int .i64 wd.kind, .slice A wd.parts.length c] 38)) := (Chg.refl [] w).alloc _
  have h1 := Lib.hid (fun W (hc : Chg [] w W) => one_any W wd A c (hp.chg hc (fun _ _ _ => by simp)))
  unfold oneV at h1
  obtain ⟨s, hs⟩ : ∃ s, (oneT wd).getD [] = s := ⟨_, rfl⟩
  obtain ⟨o, ho⟩ : ∃ o, (oneT wd).isSome = o := ⟨_, rfl⟩
  rw [hs, ho] at h1
  have hz : ∀ W, (zeroValue 3).run Try.prog W = .ok (.int .i64 0) W := fun W => by rfl
  have hQ : lookB (bstr s) flagsB = (flagOf s).map (fun j => .int .i64 (j : Int)) := by
    rw [flagOf, ← lookB_look s flagL (fun j => Value.int .i64 (j : Int))]; rfl
  obtain ⟨K, i, hKi, hfl⟩ : ∃ (K : Int) (i : Bool), (Value.tuple #[((lookB (bstr s) flagsB).getD (.int .i64 0)), .bool (lookB (bstr s) flagsB).isSome]) = .tuple #[.int .i64 K, .bool i] ∧
      ((flagged wd).isSome = (o && i && ((wd.kind : Int) == 0)) ∧ ∀ j, flagged wd = some j → K = j) := by
    rw [hQ]
    have k0 : ((wd.kind : Int) == 0) = decide (wd.kind = 0) := by
      by_cases h : wd.kind = 0
      · rw [h]; rfl
      · rw [decide_eq_false h, beq_eq_false_iff_ne]; omega
    rw [k0]
    unfold flagged
    cases hw : oneT wd with
    | none =>
      rw [hw] at ho hs
      simp at ho hs
      subst ho hs
      exact ⟨0, false, rfl, rfl, fun j h => by simp at h⟩
    | some s0 =>
      rw [hw] at ho hs
      simp at ho hs
      subst ho hs
      simp only
      cases hf : flagOf s0 with
      | none => exact ⟨0, false, rfl, by simp, fun j h => by simp at h⟩
      | some j =>
        refine ⟨j, true, rfl, ?_, fun j' h => ?_⟩
        · by_cases h0 : wd.kind = 0 <;> simp [h0]
        · by_cases h0 : wd.kind = 0
          · simp [h0] at h; rw [h]
          · simp [h0] at h
  have hlook := Lib.hid (fun W b (hM : MapAt W b flagsB) => map_look (P := Try.prog) (t := 112) (kt := 9) (e := 3) Try.underlying112 Try.underlying9 hM (hz W) (bstr s))
  rw [hKi] at hlook
  obtain ⟨z, hzz⟩ : ∃ z, ((wd.kind : Int) == 0) = z := ⟨_, rfl⟩
  rw [hzz] at hfl
  obtain ⟨Z, hZ⟩ : ∃ Z, bstr s = Z := ⟨_, rfl⟩
  rw [hZ] at hlook h1
  obtain ⟨n, hn⟩ : ∃ n, wd.parts.length = n := ⟨_, rfl⟩
  obtain ⟨kd, hkd⟩ : ∃ kd, wd.kind = kd := ⟨_, rfl⟩
  obtain ⟨at_, hat⟩ : ∃ at_, wd.at_ = at_ := ⟨_, rfl⟩
  unfold wordV at h1 ⊢
  rw [hn, hkd, hat] at hC h1 ⊢
  rw [hkd] at hzz
  have hB := Lib.hid (blk_new w (.cells #[.int .i64 at_, .int .i64 kd, .slice A n c] 38))
  replace hC := Lib.hid hC
  replace hfl := Lib.hid hfl
  clear hs ho hz hQ hKi hp hZ hn hkd hat
  go_enter Try.func43, Try.ntmps43
  go_wp2_with fail
  refine (h1.out _ hC.out).mono ?_
  rintro e w2 ⟨rfl, hC1⟩
  replace hB := Lib.hid (hC1.heap hB.out (by simp))
  replace hC := Lib.hid (hC.out.trans hC1)
  clear hC1 h1
  go_wp2_with fail
  refine (flags_any _).mono ?_
  rintro e w3 ⟨b, rfl, hM, hC1⟩
  have hl := hlook.out w3 b hM
  replace hB := Lib.hid (hC1.heap hB.out (by simp))
  replace hC := Lib.hid (hC.out.trans hC1)
  have c1 : w3.cell? ⟨w.heap.size, 1, none⟩ = some (.int .i64 kd) := by simp [World.cell?, hB.out]
  clear hC1 hlook hM
  go_wp2_with fail
  cases o <;> cases i
  all_goals
    go_quiet (fail)
    go_wp2_with fail
    go_ret2
    refine ⟨⟨K, congrArg Ending.returned ?_, hfl.out.2⟩, hC.out.drewN _⟩
    rw [hfl.out.1]
    rfl
end Pl
end Go.Proofs.Ytakcolililbkjaa
