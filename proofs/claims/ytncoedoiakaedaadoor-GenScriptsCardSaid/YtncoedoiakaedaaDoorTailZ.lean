/- Contract of package tail's overlaps. Condition: as it states. -/
import Derived.Test.YtncoedoiakaedaaDoorProg
import Derived.Test.YtncoedoiakaedaaDoorLib2
import Derived.Test.YtncoedoiakaedaaDoorTailK
import Derived.Deep.LoopGhost
import Derived.Deep.CutBlock
import Derived.Deep.DeepCutAuto
import Derived.IntWalk
import Derived.Laws.OwnMore
import Derived.BigQuiet
import Derived.Deep.QuietTactic
set_option linter.unusedVariables false
set_option linter.unusedSimpArgs false
namespace Go.Proofs.YtncoedoiakaedaaDoor
open Go.RowKit Tail
namespace Tl
theorem own_cell {w : World} {base : Nat} {e : TypeId} {size n c g : Nat} {xs : List Value} (h : w.ownsRow base e size (.slice (some ⟨g, 0, none⟩) n c) n xs) {j : Nat} {u : Value} (hj : xs[j]? = some u) :
    w.cell? ⟨g, j, none⟩ = some u ∧ w.frozen? ⟨g, j, none⟩ = false := by
  obtain ⟨h0, h1⟩ := h
  rcases h1 with ⟨h1, -⟩ | ⟨g', cap, cur, h1, h2, h3, h4, h5, h6, h7⟩
  · cases h1
  · cases h1
    have hjl := (List.getElem?_eq_some_iff.1 hj).1
    rw [← h7, List.getElem?_take_of_lt (by omega)] at hj
    refine ⟨?_, by simp [World.frozen?, h3]⟩
    simp only [World.cell?, h3]
    simpa using hj
theorem own_put {w : World} {base : Nat} {e : TypeId} {size n c g : Nat} {xs : List Value} (h : w.ownsRow base e size (.slice (some ⟨g, 0, none⟩) n c) n xs) (j : Nat) (u : Value) :
    (w.setCell ⟨g, j, none⟩ u).ownsRow base e size (.slice (some ⟨g, 0, none⟩) n c) n (xs.set j u) := by
  obtain ⟨h0, h1⟩ := h
  refine ⟨by rw [List.length_set]; exact h0, ?_⟩
  rcases h1 with ⟨h1, -⟩ | ⟨g', cap, cur, h1, h2, h3, h4, h5, h6, h7⟩
  · cases h1
  · cases h1
    refine .inr ⟨g, c, cur.setIfInBounds j u, rfl, h2, blk_set h3 j u, h4, h5, by simp [h6], ?_⟩
    rw [Array.toList_setIfInBounds, ← h7, List.take_set]
/-- The row of numbers, up to `i` done, `c` at `i`. -/
def zrow (t : List UInt8) (n i c : Nat) : List Value := (List.range n).map (fun k => Value.int .i64 ((if k < i then zl t k else if k = i then c else 0 : Nat) : Int))
theorem zrow_get {t : List UInt8} {n i c k : Nat} (h : k < n) : (zrow t n i c)[k]? = some (.int .i64 ((if k < i then zl t k else if k = i then c else 0 : Nat) : Int)) := by
  unfold zrow; rw [List.getElem?_map, List.getElem?_range h]; rfl
theorem zrow_set {t : List UInt8} {n i c c' : Nat} : (zrow t n i c).set i (.int .i64 (c' : Int)) = zrow t n i c' := by
  apply List.ext_getElem?
  intro k
  rw [List.getElem?_set]
  by_cases hk : k < n
  · rw [zrow_get hk, zrow_get hk]
    by_cases hi : i = k
    · subst hi
      rw [if_pos rfl, if_pos (by unfold zrow; simpa using hk)]
      simp
    · rw [if_neg hi]
      simp [show ¬ k = i from fun h => hi h.symm]
  · have e : ∀ c, (zrow t n i c)[k]? = none := fun c => by unfold zrow; exact List.getElem?_eq_none (by simp; omega)
    rw [e, e]
    split
    · split
      · rename_i h; unfold zrow at h; simp at h; omega
      · rfl
    · rfl
theorem zrow_next (t : List UInt8) (n i : Nat) : zrow t n i (zl t i) = zrow t n (i + 1) 0 := by
  unfold zrow
  apply List.map_congr_left
  intro k _
  congr 2
  by_cases h1 : k < i
  · rw [if_pos h1, if_pos (by omega)]
  · rw [if_neg h1]
    by_cases h2 : k = i
    · subst h2; rw [if_pos rfl, if_pos (by omega)]
    · rw [if_neg h2, if_neg (by omega)]; simp
set_option maxRecDepth 100000 in
set_option maxHeartbeats 8000000 in
theorem overlaps_any (w : World) (t : List UInt8) (A : Option Addr) (c : Nat) (hl : t.length ≤ 16777216) (hr : ∀ j x, t[j]? = some x → ∃ b o, A = some ⟨b, o, none⟩ ∧ w.cell? ⟨b, o + j, none⟩ = some (.int .u8 x.toNat)) :
    Calls Tryd.prog 56 #[.slice A t.length c] w fun e w' => ∃ g, e = .returned (.slice (some ⟨g, 0, none⟩) t.length t.length) ∧ w.heap.size ≤ g ∧ w'.ownsRow w.heap.size 3 1 (.slice (some ⟨g, 0, none⟩) t.length t.length) t.length (zrow t t.length t.length 0) ∧ Chg [] w w' := by
  have hinf : (Tryd.prog.info? 3).map (fun i => (i.zero, i.size, i.bytes)) = some (some (.int .i64 0), 1, 8) := by kernel_rfl
  obtain ⟨i, hi, hz, hs, hb⟩ : ∃ i, Tryd.prog.info? 3 = some i ∧ i.zero = some (.int .i64 0) ∧ i.size = 1 ∧ i.bytes = 8 := by
    cases hi : Tryd.prog.info? 3 with
    | none => rw [hi] at hinf; cases hinf
    | some i => rw [hi] at hinf; simp at hinf; exact ⟨i, rfl, hinf.1, hinf.2.1, hinf.2.2⟩
  obtain ⟨n, hn⟩ : ∃ n, t.length = n := ⟨_, rfl⟩
  obtain ⟨w1, hmk, hown, hgr⟩ := run_makeSlice_full (P := Tryd.prog) (w := w) w.heap.size 33 3 i (.int .i64 0) 1 Tryd.underlying33 hi hz hs .i64 .i64 n (by omega) (by rw [hb]; omega) (by unfold maxLen; omega) (Nat.le_refl _)
  rw [hn] at hl ⊢
  have hC1 : Chg [] w w1 := ⟨hgr.os, hgr.tape, hgr.output, hgr.size, fun k hk _ => hgr.block k hk (by simp)⟩
  have hrow : (madeCells (Value.int .i64 0).cells (n * 1)).toList = zrow t n 1 0 := by
    unfold madeCells zrow
    rw [Nat.mul_one]
    apply List.ext_getElem?
    intro k
    simp only [Array.toList_map, Array.toList_range, List.getElem?_map]
    by_cases hk : k < n
    · rw [List.getElem?_range hk]
      simp only [Option.map_some]
      congr 1
      have e : ((if k < 1 then zl t k else if k = 1 then 0 else 0 : Nat) : Int) = 0 := by
        by_cases h1 : k < 1
        · have : k = 0 := by omega
          subst this; rw [if_pos h1]; rfl
        · rw [if_neg h1]; simp
      rw [e]
      have : (Value.int IntKind.i64 0).cells = #[Value.int .i64 0] := rfl
      rw [this]
      simp [Nat.mod_one]
    · rw [List.getElem?_eq_none (by simp; omega)]; rfl
  rw [hrow] at hown
  obtain ⟨g, hg⟩ : ∃ g, w.heap.size = g := ⟨_, rfl⟩
  rw [hg] at hmk hown
  replace hr := Lib.hid hr
  replace hown := Lib.hid hown
  replace hC1 := Lib.hid hC1
  replace hn := Lib.hid hn
  replace hg := Lib.hid hg
  clear hinf hi hz hs hb hgr hrow
  go_enter Tryd.func56, Tryd.ntmps56
  go_upto_block 0 with (fail)
  go_wp2
  clear hmk
  go_loopg [4, 5, 6] n (fun gk v4 v5 v6 wr => ∃ l r i : Nat, v4 = .int .i64 l ∧ v5 = .int .i64 r ∧ v6 = .int .i64 i ∧ 1 ≤ i ∧ i ≤ n + 1 ∧ (1 ≤ n → i ≤ n) ∧ gk = n + 1 - i ∧ Hid (Win t i l r) ∧ Hid (wr.ownsRow g 3 1 (.slice (some ⟨g, 0, none⟩) n n) n (zrow t n i 0)) ∧ Hid (Chg [] w wr))
  case atStart => exact ⟨0, 0, 1, rfl, rfl, rfl, by omega, by omega, by omega, by omega, Lib.hid (.inl ⟨rfl, rfl⟩), hown, hC1⟩
  case round =>
    obtain ⟨l, r, i, rfl, rfl, rfl, hi1, hi2, hi3, rfl, hW, hO, hC⟩ := hrel
    by_cases hlt : i < n
    · obtain ⟨Z0, hZ0⟩ : ∃ z, zl t i = z := ⟨_, rfl⟩
      have hzl : Z0 = lcp t (t.drop i) := by rw [← hZ0]; unfold zl; rw [if_neg (by omega)]
      have hin : i < n + 1 := by omega
      replace hZ0 := Lib.hid hZ0
      replace hzl := Lib.hid hzl
      go_upto_if 18 with fail
      go_cut [6] (fun v6 wx => v6 = .int .i64 (i : Int) ∧ ∃ cur : Nat, Hid (cur ≤ Z0) ∧ Hid (wx.ownsRow g 3 1 (.slice (some ⟨g, 0, none⟩) n n) n (zrow t n i cur)) ∧ Hid (Chg [] w wx))
      case first =>
        by_cases hir : i < r
        · obtain ⟨h1, h2, h3⟩ := hW.out.start hir
          obtain ⟨d, hd⟩ : ∃ d, i - l = d := ⟨_, rfl⟩
          have hdi : (i : Int) - (l : Int) = (d : Int) := by omega
          obtain ⟨e, he⟩ : ∃ e, r - i = e := ⟨_, rfl⟩
          have hei : (r : Int) - (i : Int) = (e : Int) := by omega
          have hrn : r ≤ n := by
            rcases hW.out with ⟨-, h⟩ | ⟨-, -, -, h, -⟩
            · omega
            · rw [hn.out] at h; exact h
          have he9 : e ≤ 16777216 := by omega
          have hw1 : IntKind.i64.wrap (e : Int) = (e : Int) := IntWalk.i64_in _ (by omega)
          rw [hd] at h1 h2 h3
          rw [he] at h3
          obtain ⟨q, hq⟩ : ∃ q, zl t d = q := ⟨_, rfl⟩
          rw [hq] at h3
          have k1 := own_cell hO.out (zrow_get (t := t) (i := i) (c := 0) (show d < n by omega))
          rw [if_pos h1, hq] at k1
          have k2 := own_cell hO.out (zrow_get (t := t) (i := i) (c := 0) hlt)
          obtain ⟨x1, -⟩ := k1
          obtain ⟨x2, f2⟩ := k2
          obtain ⟨cur, hcur⟩ : ∃ cur, min e q = cur := ⟨_, rfl⟩
          have hdn : d < n := by omega
          have hO2 := Lib.hid (own_put hO.out i (.int .i64 (cur : Int)))
          rw [zrow_set] at hO2
          have hle : Hid (cur ≤ Z0) := Lib.hid (by rw [hzl.out, ← hcur]; exact h3)
          have hC2 := Lib.hid (hC.out.setCell (p := ⟨g, i, none⟩) (.inr (by have := hg.out; show w.heap.size ≤ g; omega)) (.int .i64 (cur : Int)))
          replace hcur := Lib.hid hcur
          clear h1 h2 h3 hd he hq hO hC hW
          go_wp2_with fail
          all_goals
            go_meet
            first
            | (obtain rfl : cur = q := by have := hcur.out; omega); exact ⟨rfl, _, hle, hO2, hC2⟩
            | (obtain rfl : cur = e := by have := hcur.out; omega); exact ⟨rfl, _, hle, hO2, hC2⟩
        · go_wp2_with fail
          go_meet
          exact ⟨rfl, 0, Lib.hid (Nat.zero_le _), hO, hC⟩
      case rest =>
      obtain ⟨rfl, cur, hcur, hO2, hC2⟩ := hcut
      clear hO hC
      go_upto_block 2 with (fail)
      go_cut [4, 5, 6] (fun v4 v5 v6 wx => v4 = .int .i64 (l : Int) ∧ v5 = .int .i64 (r : Int) ∧ v6 = .int .i64 (i : Int) ∧ Hid (wx.ownsRow g 3 1 (.slice (some ⟨g, 0, none⟩) n n) n (zrow t n i Z0)) ∧ Hid (Chg [] w wx))
      case first =>
        go_wp2
        go_loopg [] (n - cur) (fun gk wr => ∃ cur : Nat, gk = n - cur ∧ Hid (cur ≤ Z0) ∧ Hid (wr.ownsRow g 3 1 (.slice (some ⟨g, 0, none⟩) n n) n (zrow t n i cur)) ∧ Hid (Chg [] w wr))
        case atStart => exact ⟨cur, rfl, hcur, hO2, hC2⟩
        case round =>
          clear hcur hO2 hC2
          obtain ⟨cur, rfl, hcur, hO2, hC2⟩ := hrel
          have k2 := own_cell hO2.out (zrow_get (t := t) (i := i) (c := cur) hlt)
          rw [if_neg (by omega), if_pos rfl] at k2
          obtain ⟨x2, f2⟩ := k2
          have hZn : Z0 ≤ n - i := by have h := lcp_le_right t (t.drop i); rw [List.length_drop, hn.out] at h; rw [hzl.out]; exact h
          have hcn : cur ≤ n - i := Nat.le_trans hcur.out hZn
          by_cases hend : i + cur < n
          · obtain ⟨a, ha⟩ : ∃ a, t[cur]? = some a := ⟨_, List.getElem?_eq_getElem (by have := hn.out; omega)⟩
            obtain ⟨b2, hb2⟩ : ∃ b, t[i + cur]? = some b := ⟨_, List.getElem?_eq_getElem (by have := hn.out; omega)⟩
            obtain ⟨bb, oo, rfl, u0⟩ := hr.out cur a ha
            obtain ⟨bb', oo', e', u1⟩ := hr.out (i + cur) b2 hb2
            cases e'
            replace u0 := hC2.out.cell u0 (by simp)
            replace u1 := hC2.out.cell u1 (by simp)
            have hd : (t.drop i)[cur]? = some b2 := by rw [List.getElem?_drop]; exact hb2
            have hg1 : ((i : Int) + (cur : Int)) < (n : Int) := by omega
            have hg2 : ((cur : Nat) : Int) < (n : Int) := by omega
            by_cases hab : a = b2
            · subst hab
              have hmore : Hid (cur + 1 ≤ Z0) := Lib.hid (by rw [hzl.out]; exact lcp_more (by rw [← hzl.out]; exact hcur.out) ha hd)
              have hO3 := Lib.hid (fun k => own_put (own_drewN hO2.out k) i (.int .i64 ((cur + 1 : Nat) : Int)))
              rw [zrow_set] at hO3
              have hC3 := Lib.hid (fun k => (hC2.out.drewN k).setCell (p := ⟨g, i, none⟩) (.inr (by have := hg.out; show w.heap.size ≤ g; omega)) (.int .i64 ((cur + 1 : Nat) : Int)))
              have e1 : ((cur + 1 : Nat) : Int) = (cur : Int) + 1 := by omega
              rw [e1] at hO3 hC3
              clear ha hb2 hd hO2 hC2 e1
              go_wp2_with fail
              go_quiet (fail)
              go_wp2_with fail
              go_roundg (n - (cur + 1))
              case measure => omega
              case rel => exact ⟨cur + 1, rfl, hmore, hO3.out _, hC3.out _⟩
            · have hZ : Z0 = cur := by
                rw [hzl.out]; exact lcp_stop (by rw [← hzl.out]; exact hcur.out) (.inl (by rw [ha, hd]; intro h; exact hab (Option.some.inj h)))
              subst hZ
              have hne : ¬ (a.toNat : Int) = (b2.toNat : Int) := fun h => hab (UInt8.toNat_inj.1 (by omega))
              have hne2 : decide ((a.toNat : Int) = (b2.toNat : Int)) = false := decide_eq_false hne
              clear ha hb2 hd hab
              go_wp2_with fail
              go_quiet (fail)
              go_wp2_with fail
              go_meet
              exact ⟨rfl, rfl, rfl, Lib.hid (own_drewN hO2.out _), Lib.hid (hC2.out.drewN _)⟩
          · have hZ : Z0 = cur := by
              rw [hzl.out]; exact lcp_stop (by rw [← hzl.out]; exact hcur.out) (.inr (by rw [List.length_drop, hn.out]; omega))
            subst hZ
            have hne : ¬ ((i : Int) + (Z0 : Int)) < (n : Int) := by omega
            have hne2 : decide (((i : Int) + (Z0 : Int)) < (n : Int)) = false := decide_eq_false hne
            go_wp2_with fail
            go_quiet (fail)
            go_wp2_with fail
            go_meet
            exact ⟨rfl, rfl, rfl, Lib.hid (own_drewN hO2.out _), Lib.hid (hC2.out.drewN _)⟩
      case rest =>
      clear hcur hO2 hC2
      obtain ⟨rfl, rfl, rfl, hO2, hC2⟩ := hcut
      have k2 := own_cell hO2.out (zrow_get (t := t) (i := i) (c := Z0) hlt)
      rw [if_neg (by omega), if_pos rfl] at k2
      obtain ⟨x2, f2⟩ := k2
      have hZn : Z0 ≤ n - i := by have h := lcp_le_right t (t.drop i); rw [List.length_drop, hn.out] at h; rw [hzl.out]; exact h
      have hnx := hW.out.next hi1 (by have := hn.out; omega)
      rw [hZ0.out] at hnx
      replace hnx := Lib.hid hnx
      have hO3 := hO2.out
      rw [show zrow t n i Z0 = zrow t n (i + 1) 0 from by rw [← zrow_next, hZ0.out]] at hO3
      replace hO3 := Lib.hid hO3
      clear hO2 hr hzl hZ0 hW
      by_cases hgt : i + Z0 > r
      · have hg1 : (r : Int) < ((i : Int) + (Z0 : Int)) := by omega
        rw [if_pos hgt, if_pos hgt] at hnx
        go_wp2_with fail
        all_goals
          go_region
          all_goals
            go_wp2_with fail
            go_roundg (n + 1 - (i + 1))
            case measure => omega
            case rel => exact ⟨i, i + Z0, i + 1, by simp, by simp, by simp, by omega, by omega, by omega, rfl, hnx, Lib.hid (own_drewN hO3.out _), Lib.hid (hC2.out.drewN _)⟩
      · have hg1 : ¬ (r : Int) < ((i : Int) + (Z0 : Int)) := by omega
        rw [if_neg hgt, if_neg hgt] at hnx
        go_wp2_with fail
        all_goals
          go_roundg (n + 1 - (i + 1))
          case measure => omega
          case rel => exact ⟨l, r, i + 1, rfl, rfl, by simp, by omega, by omega, by omega, rfl, hnx, hO3, hC2⟩
    · have hin : i = n ∨ (n = 0 ∧ i = 1) := by omega
      have e : zrow t n i 0 = zrow t n n 0 := by
        rcases hin with rfl | ⟨rfl, rfl⟩
        · rfl
        · rfl
      rw [e] at hO
      clear hr
      go_wp2_with fail
      go_ret
      exact ⟨g, rfl, by have := hg.out; omega, by rw [hg.out]; exact hO.out, hC.out⟩
end Tl
end Go.Proofs.YtncoedoiakaedaaDoor
