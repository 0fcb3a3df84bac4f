/- Of no matcher; the law's great and hit. Conditions: as they state. -/
import Derived.Test.YtojgdmpnbgikeaaRefs
import Derived.Test.YtojgdmpnbgikeaaPMatchFeedsx1
set_option linter.unusedVariables false
set_option linter.unusedSimpArgs false
namespace Go.Proofs.Ytojgdmpnbgikeaa
open Go.RowKit PMatchFeeds YtojgdmpnbgikeaaW.PrintWords
namespace Mt
open Kmp Glob
theorem reset_nil (w : World) : Calls Try.prog 17 #[.pointer none] w fun e w' => e = .returned (.tuple #[]) ∧ w' = w := by
  go_enter Try.func17, Try.ntmps17
  go_wp2_with fail
  exact bodyPost_ret (v := .tuple #[]) (results_none rfl _ _ _) rfl ⟨rfl, rfl⟩
def noHit : Value := .agg #[.int .i64 0, .int .i64 0, .int .i64 0]
theorem start_nil (w : World) : Calls Try.prog 15 #[.pointer none] w fun e w' => e = .returned (.tuple #[.agg #[.int .i64 0, .int .i64 0, .int .i64 0], .bool false]) ∧ Chg [] w w' := by
  have hC0 := Lib.hid ((Chg.refl [] w).alloc (.cells #[.int .i64 0, .int .i64 0, .int .i64 0] 34))
  have hb2 := Lib.hid (blk_new w (.cells #[.int .i64 0, .int .i64 0, .int .i64 0] 34))
  go_enter Try.func15, Try.ntmps15
  go_wp2_with fail
  refine bodyPost_ret (v := .tuple #[.agg #[.int .i64 0, .int .i64 0, .int .i64 0], .bool false]) ?_ rfl ⟨rfl, hC0.out⟩
  exact results_cell2 rfl _ _ _ 34 _ (0, 0) _ _ rfl hb2.out Try.underlying34 rfl (by kernel_rfl) rfl
theorem feed_nil (w : World) (c : Int) : Calls Try.prog 16 #[.pointer none, .int .u8 c] w fun e w' => e = .returned (.tuple #[.agg #[.int .i64 0, .int .i64 0, .int .i64 0], .bool false]) ∧ Chg [] w w' := by
  have hC0 := Lib.hid ((Chg.refl [] w).alloc (.cells #[.int .i64 0, .int .i64 0, .int .i64 0] 34))
  have hb2 := Lib.hid (blk_new w (.cells #[.int .i64 0, .int .i64 0, .int .i64 0] 34))
  go_enter Try.func16, Try.ntmps16
  go_wp2_with fail
  refine bodyPost_ret (v := .tuple #[.agg #[.int .i64 0, .int .i64 0, .int .i64 0], .bool false]) ?_ rfl ⟨rfl, hC0.out⟩
  exact results_cell2 rfl _ _ _ 34 _ (0, 0) _ _ rfl hb2.out Try.underlying34 rfl (by kernel_rfl) rfl
theorem hit_no (w : World) (i f t : Int) (h : i < 0) : Calls Try.prog 14 #[.int .i64 i, .int .i64 f, .int .i64 t] w fun e w' => e = .returned (.tuple #[.agg #[.int .i64 0, .int .i64 0, .int .i64 0], .bool false]) ∧ Chg [] w w' := by
  refine (cuecardlaw15_hit.calls i f t 0 0 0 false w (by rw [cuecardlaw15_hit.f, if_pos h])).mono ?_
  rintro e w' ⟨h1, h2⟩
  exact ⟨h1, Chg.of_below h2⟩
theorem hit_yes (w : World) (i f t : Int) (h : 0 ≤ i) : Calls Try.prog 14 #[.int .i64 i, .int .i64 f, .int .i64 t] w fun e w' => e = .returned (.tuple #[.agg #[.int .i64 i, .int .i64 f, .int .i64 t], .bool true]) ∧ Chg [] w w' := by
  refine (cuecardlaw15_hit.calls i f t i f t true w (by rw [cuecardlaw15_hit.f, if_neg (by omega)])).mono ?_
  rintro e w' ⟨h1, h2⟩
  exact ⟨h1, Chg.of_below h2⟩
theorem hit_v (w : World) (o : Option (Nat × Nat)) (n : Nat) : Calls Try.prog 14 #[.int .i64 (hitI o), .int .i64 (of_ o), .int .i64 n] w fun e w' => e = .returned (hitV o n) ∧ Chg [] w w' := by
  cases o with
  | none => exact hit_no w _ _ _ (by simp [hitI])
  | some p => exact hit_yes w _ _ _ (by simp [hitI])
/-- Branches, as the printed texts read them. -/
def kbr (x : Br) : S45 := ⟨x.kind, bs x.pat⟩
theorem sl_row {w : World} {size : Nat} {A : Option Addr} {n c : Nat} {xs : List Value} (h : Sl w size (.slice A n c) n xs) (hx : 0 < xs.length) :
    ∃ b o, A = some ⟨b, o, none⟩ ∧ ∀ j u, xs[j]? = some u → w.cell? ⟨b, o + j, none⟩ = some u := by
  obtain ⟨A0, c0, e0, h0, h1, h2, h3, h4⟩ := h
  obtain ⟨rfl, rfl⟩ : A0 = A ∧ c0 = c := by simp at e0; exact ⟨e0.1.symm, e0.2.symm⟩
  obtain ⟨ad, rfl, hr⟩ := h4 hx
  have hspot : ad.spot = none := by
    have := hr 0 _ (List.getElem?_eq_getElem hx)
    exact World.cell?_spot (a := ad) (by simpa [Addr.add] using this)
  obtain ⟨b, off, spot⟩ := ad
  simp only at hspot
  subst hspot
  refine ⟨b, off, rfl, fun j u hu => ?_⟩
  have := hr j _ hu
  have ha : (⟨b, off, none⟩ : Addr).add j = ⟨b, off + j, none⟩ := by unfold Addr.add; split <;> simp_all
  rwa [ha] at this
theorem kd_of_sl {α : Type} {d : Kd α} {w : World} {sz n c : Nat} {A : Option Addr} {xs : List Value} (h : Sl w sz (.slice A n c) n xs) (hsz : d.sz = sz) (ys : List α) (hl : ys.length = n) (hm : n ≤ 9223372036854775807) (h0 : 0 < sz)
    (hk : ∀ j y, ys[j]? = some y → ∃ cs, cs.length = sz ∧ d.K w y cs ∧ ∀ i u, cs[i]? = some u → xs[j * sz + i]? = some u) : d.C w A n ys := by
  refine ⟨hl, hm, fun hn => ?_⟩
  obtain ⟨b, o, rfl, hr⟩ := sl_row h (by rw [h.len]; exact Nat.mul_pos hn h0)
  refine ⟨_, rfl, fun j y hj => ?_⟩
  obtain ⟨cs, h1, h2, h3⟩ := hk j y hj
  refine ⟨cs, by rw [h1, hsz], h2, fun i u hi => ?_⟩
  have := hr _ _ (h3 i u hi)
  have ha : (⟨b, o, none⟩ : Addr).add (j * d.sz + i) = ⟨b, o + (j * sz + i), none⟩ := by rw [hsz]; unfold Addr.add; split <;> simp_all
  rw [ha]; exact this
theorem sl_max {w : World} {size : Nat} {A : Option Addr} {n c : Nat} {xs : List Value} (h : Sl w size (.slice A n c) n xs) : n ≤ c ∧ c ≤ maxLen := by
  obtain ⟨A0, c0, e0, h0, h1, h2, -⟩ := h
  simp at e0
  omega
theorem kbrs {w : World} {A : Option Addr} {c : Nat} {l : List Br} (h : Sl w 2 (.slice A l.length c) l.length (brCells l)) : k45.C w A (l.map kbr).length (l.map kbr) := by
  have hm := sl_max h
  unfold maxLen at hm
  rw [List.length_map]
  refine kd_of_sl h rfl _ (by simp) (by omega) (by decide) fun j y hj => ?_
  rw [List.getElem?_map] at hj
  obtain ⟨p, hp, rfl⟩ := Option.map_eq_some_iff.1 hj
  have hg := br_get l j p hp
  refine ⟨_, rfl, k45_mk w (kbr p), fun i u hi => ?_⟩
  match i, hi with
  | 0, hi => cases hi; exact hg.1
  | 1, hi => cases hi; exact hg.2
theorem great_go (l : List S45) (hl : l.length ≤ 1000) : ∀ (e i : Nat), l.length - i ≤ e → ∀ n : Int, ∃ v, Kmp.Ev (fun k => cuecardlaw15_great.l0 k n l (l.length : Int) i) v := by
  intro e
  induction e with
  | zero =>
    intro i he n
    refine ⟨_, Kmp.Ev.pure (r := decide (n > 300)) fun k => ?_⟩
    simp only [cuecardlaw15_great.l0]
    rw [if_neg (by omega)]
  | succ e ih =>
    intro i he n
    by_cases h : i < l.length
    · obtain ⟨v, hv⟩ := ih (i + 1) (by omega) (wrap64 (n + (mn (((rd_T45 l i).f1).size : Int) 100)))
      refine ⟨v, Kmp.Ev.step hv fun k => ?_⟩
      simp only [cuecardlaw15_great.l0]
      rw [if_pos (by omega), if_pos (by omega), if_pos (by omega), show wrap64 ((i : Int) + 1) = ((i + 1 : Nat) : Int) from by rw [wrap_in (by omega) (by omega)]; rfl]
    · refine ⟨_, Kmp.Ev.pure (r := decide (n > 300)) fun k => ?_⟩
      simp only [cuecardlaw15_great.l0]
      rw [if_neg (by omega)]
theorem great_f (b : List Int) (l : List S45) : ∃ K v, cuecardlaw15_great.f K b l = some v ∧ (v = false → b.length ≤ 60 ∧ l.length ≤ 70) := by
  unfold cuecardlaw15_great.f
  by_cases h1 : (b.length : Int) > 60
  · refine ⟨1, true, ?_, by simp⟩
    rw [if_pos h1]; simp [cuecardlaw15_great.j0]
  · by_cases h2 : (l.length : Int) > 70
    · refine ⟨1, true, ?_, by simp⟩
      rw [if_neg h1]; simp [cuecardlaw15_great.j0, h2]
    · obtain ⟨v, K, hK⟩ := great_go l (by omega) l.length 0 (by omega) 0
      refine ⟨K + 1, v, ?_, fun _ => ⟨by omega, by omega⟩⟩
      rw [if_neg h1]
      simp only [cuecardlaw15_great.j0]
      rw [if_neg (by simpa using h2)]
      exact hK K (Nat.le_refl _)
theorem great_any (w : World) (b : List UInt8) (l : List Br) (A Ab : Option Addr) (n c nb cb : Nat) (hn : l.length = n) (hS : Sl w 2 (.slice A n c) n (brCells l)) (hnb : b.length = nb) (hB : Sl w 1 (.slice Ab nb cb) nb (cellsOf .u8 (ns b))) :
    Calls Try.prog 10 #[.slice Ab nb cb, .slice A n c] w fun e w' => ∃ v, e = .returned (.bool v) ∧ Hid (v = false → nb ≤ 60 ∧ n ≤ 70) ∧ Hid (Chg [] w w') := by
  subst hn hnb
  obtain ⟨K, v, hK, hv⟩ := great_f (ns b) (l.map kbr)
  have hB' := kd_ints hB
  have e1 : (ns b).length = b.length := ns_length b
  have e2 : (l.map kbr).length = l.length := List.length_map ..
  have h1 := (sl_max hB).1
  have h2 := (sl_max hS).1
  have h3 := kbrs hS
  rw [e1, e2] at hv
  have := cuecardlaw15_great.calls K Ab cb (ns b) A c (l.map kbr) v w (by rw [e1]; exact hB') (by rw [e1]; exact h1) h3 (by rw [e2]; exact h2) hK
  rw [e1, e2] at this
  refine this.mono ?_
  rintro e w' ⟨rfl, hb⟩
  exact ⟨v, rfl, hv, Chg.of_below hb⟩
end Mt
end Go.Proofs.Ytojgdmpnbgikeaa
