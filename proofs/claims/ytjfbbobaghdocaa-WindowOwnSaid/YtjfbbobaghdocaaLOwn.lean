/- WindowOwn: the walk. No condition. -/
import Derived.Test.YtjfbbobaghdocaaWinLaw
import Derived.Test.YtjfbbobaghdocaaLib2
import Derived.Deep.LoopGhost
set_option linter.unusedVariables false
set_option linter.unusedSimpArgs false
namespace Go.Proofs.Ytjfbbobaghdocaa
open Go.RowKit

set_option maxHeartbeats 4000000 in
theorem windowOwn_walk (m : Int) (A1 : Option Addr) (l1 c1 : Nat) (xs : List Int) (w : World)
    (h1 : Sl w 1 (.slice A1 l1 c1) l1 (cellsOf .u8 xs)) :
    Calls Try.prog 4 #[.int .i64 m, .slice A1 l1 c1] w fun e w' => e = .returned (.bool true) ∧ Below w.heap.size w w' := by
  obtain ⟨k1, hk1, hs1, hS1, hb1⟩ := cut_to (P := Try.prog) 22 5 Try.underlying22 Try.info_u8 h1 100 (by omega)
  have d0 : 0 ≤ m % 30 ∧ m % 30 < 30 := by omega
  obtain ⟨d1, d2⟩ := d0
  have hm : 0 < m ∨ m ≤ 0 := by omega
  have hll1 : (l1 : Int) ≤ 9223372036854775807 := by obtain ⟨_, _, e, _, h, h', _⟩ := h1; simp at e; unfold maxLen at h'; omega
  have hS1' : Sl w 1 (.slice A1 k1 c1) k1 (cellsOf .u8 (xs.take k1)) := by rw [Nat.mul_one, cellsOf_take] at hS1; exact hS1
  obtain ⟨B, hB⟩ : ∃ B, B = xs.take k1 := ⟨_, rfl⟩
  rw [← hB] at hS1'
  have hBl : B.length = k1 := by have := hS1'.len; simpa using this
  have hk1' : k1 ≤ 100 := by omega
  have hown : (w.alloc (.cells #[] 5)).ownsRow w.heap.size 5 1 (.slice (some ⟨w.heap.size, 0, none⟩) 0 0) 0 [] := World.ownsRow_made w #[] 0 (Nat.le_refl _) (by simp) (by simp)
  have hSx := hS1'.chg ((Chg.refl [] w).alloc (.cells #[] 5)) (by simp)
  clear hS1 hb1 hk1 hB h1 hS1'
  replace hSx := Lib.hid hSx
  replace hBl := Lib.hid hBl
  replace hown := Lib.hid hown
  have hq : 100 < (l1 : Int) ∨ (l1 : Int) ≤ 100 := by omega
  rcases hm with hm | hm
  all_goals
    rcases hq with hq | hq
  all_goals
    (first | simp only [if_pos hq] at hs1 | simp only [if_neg (show ¬ (100 : Int) < l1 by omega)] at hs1)
    go_enter Try.func4, Try.ntmps4
    go_wp2_with (at_builtin; refine wpList_append_sl rfl (.tmp 11) (.tmp 16) 22 rfl w.heap.size 5 (.int .u8 0) 1 1 Try.underlying22 Try.info_u8 rfl (by decide) (.slice (some ⟨w.heap.size, 0, none⟩) 0 0) 0 [] rfl hown.out _ _ _ rfl hSx.out cellsOf_one k1 (by simp) (by omega) (by decide) (by simp) ?_; intro Ab cb w0 hob hcb hat; replace hob := Lib.hid hob; replace hcb := Lib.hid hcb; clear hat)
    (first | (have hm0 : 0 < m := hm; generalize hN : (1 + m % 30 : Int) = N; clear hm0) | generalize hN : (1 : Int) = N)
    have n1 : 1 ≤ N := by omega
    have n2 : N ≤ 30 := by omega
    clear hN hs1 hSx hown
    have hC0 : Chg [] w w0 := ((Chg.refl [] w).alloc _).then hcb.out (fun x hx => Or.inr (Nat.le_of_eq (show x = w.heap.size by simpa [Value.ownBlock] using hx).symm))
    have hob' := hob.out
    simp only [List.nil_append] at hob'
    refine (new_any N w0 (by omega) (by omega)).mono ?_
    rintro e w1 ⟨g, rfl, hW1, hC1, hg1⟩
    go_wp2_with fail
    refine (alive_any _).mono ?_
    rintro e w2 ⟨rfl, hC2⟩
    have hW2 := hW1.chg hC2 (by simp) (by simp)
    have hb2 := own_chg hob' (hC1.trans hC2) (by simp)
    have hbq : ∀ q, (Value.slice Ab k1 cb).ownBlock = some q → w.heap.size ≤ q ∧ q < w0.heap.size := fun q hq => hob'.lt q hq
    have hC2' := hC0.trans (hC1.trans hC2)
    have hz : w0.heap.size ≤ w2.heap.size := (hC1.trans hC2).size
    have hg : w.heap.size ≤ g := by have := hC0.size; omega
    clear hW1 hob' hob hcb hC0 hC1 hC2
    go_wp2_with fail
    refine (put_any w2 g none _ _ _ _ hW2 _ B (by rw [hBl.out]; exact own_sl hb2) (fun _ q hq => ⟨by have := hbq q hq; omega, by simp⟩) (by have := hBl.out; omega)).mono ?_
    rintro e w3 ⟨rfl, r3, h3, hW3, hr3, hC3⟩
    have hbr : ∀ q, (Value.slice Ab k1 cb).ownBlock = some q → q ≠ g ∧ r3 ≠ some q := fun q hq => ⟨by have := hbq q hq; omega, fun e => by
      rcases hr3 q e with h | h
      · simp at h
      · have := hbq q hq; omega⟩
    have hb3 := own_chg hb2 hC3 (fun q hq hm => by simp at hm; exact (hbr q hq).1 hm)
    have hC3' := hC2'.then hC3 (fun x hx => by simp at hx; right; omega)
    clear hW2 hb2 hC3 hC2' hr3
    obtain ⟨bs, hbs⟩ : ∃ bs, bs = lastN N.toNat ([] ++ B) := ⟨_, rfl⟩
    obtain ⟨tt, htt⟩ : ∃ tt : Int, tt = 0 + B.length := ⟨_, rfl⟩
    rw [← hbs, ← htt] at hW3
    clear hbs htt
    go_wp2_with fail
    refine (bytes_str w3 g hW3 _ rfl _ rfl).mono ?_
    rintro e w4 ⟨A4, c4, rfl, hs4, -, hC4⟩
    have hW4 := hW3.chg hC4 (by simp) (by simp)
    have hb4 := own_chg hb3 hC4 (by simp)
    have hC4' := hC3'.trans hC4
    clear hW3 hb3 hC4 hC3'
    go_wp2_with fail
    go_loopw [44] (fun i wr => ∃ (k : Nat) (zs : List Int), k ≤ k1 ∧ i = .int .i64 k ∧ zs.length = k1 ∧ wr.ownsRow w.heap.size 5 1 (.slice Ab k1 cb) k1 (cellsOf .u8 zs) ∧ Win wr g r3 N tt h3 bs ∧ Chg [] w wr) (fun i _ => k1 - (intOf i).toNat)
    case atStart => exact ⟨0, B, by omega, rfl, hBl.out, hb4, hW4, hC4'⟩
    case round =>
      obtain ⟨k, zs, hk, rfl, hzl, hb, hW, hC⟩ := hrel
      by_cases hlt : k < k1
      · obtain ⟨q, rfl, hq1⟩ : ∃ q, Ab = some ⟨q, 0, none⟩ ∧ w.heap.size ≤ q := by
          rcases hb.2 with ⟨_, e⟩ | ⟨q, cap, cur, e, e2, _⟩
          · omega
          · simp at e; exact ⟨q, e.1, e2⟩
        have hcx := (hb.cellAt k (by omega)).trans (cellsOf_get (k := .u8) (show k < zs.length by omega))
        have hfx := hb.frozenAt k
        generalize zs[k] = x at hcx
        have hst := (hb.stored k (.int .u8 ((x + 1) % 256))).1
        rw [show (cellsOf .u8 zs).set k (.int .u8 ((x + 1) % 256)) = cellsOf .u8 (zs.set k ((x + 1) % 256)) by simp [cellsOf, List.map_set]] at hst
        have hcq : Chg [q] wr (wr.setCell ⟨q, k, none⟩ (.int .u8 ((x + 1) % 256))) := (Chg.refl [q] wr).setCell (.inl (by simp)) _
        have hbq1 := hbr q rfl
        have hW' := hW.chg hcq (by simp; exact fun e => hbq1.1 e.symm) (fun j hj hm => by simp at hm; subst hm; exact hbq1.2 hj)
        have hC' := hC.then hcq (fun y hy => by simp at hy; right; omega)
        replace hst := Lib.hid hst
        replace hW' := Lib.hid hW'
        replace hC' := Lib.hid hC'
        clear hb hW hC hcq hbq1
        go_wp2_with fail
        go_roundw
        case rel => exact ⟨k + 1, zs.set k ((x + 1) % 256), by omega, by go_num, by simpa using hzl, hst.out, hW'.out, hC'.out⟩
        case measure => simp [intOf]; omega
      · go_wp2_with fail
        refine (bytes_str wr g hW _ rfl _ rfl).mono ?_
        rintro e w5 ⟨A5, c5, rfl, -, ho5, hC5⟩
        have hW5 := hW.chg hC5 (by simp) (by simp)
        have hC5' := hC.trans hC5
        have hbr5 : ∀ q, (Value.slice A5 bs.length c5).ownBlock = some q → q ≠ g ∧ r3 ≠ some q := fun q hq => by
          have h1 := (ho5.lt q hq).1
          have h2 := hW.lt
          exact ⟨by omega, fun e => by have := (h2.2 q e).1; omega⟩
        have hz5 := hC.size
        clear hb hW hC hC5
        go_wp2_with fail
        obtain ⟨wo, rfl⟩ : ∃ wo : World, wo = wr := ⟨_, rfl⟩
        go_loopw [58] (fun i wx => ∃ (k : Nat) (zs : List Int), k ≤ bs.length ∧ i = .int .i64 k ∧ zs.length = bs.length ∧ wx.ownsRow wo.heap.size 5 1 (.slice A5 bs.length c5) bs.length (cellsOf .u8 zs) ∧ Win wx g r3 N tt h3 bs ∧ Chg [] w wx) (fun i _ => bs.length - (intOf i).toNat)
        case atStart => exact ⟨0, bs, by omega, rfl, rfl, ho5, hW5, hC5'⟩
        case round =>
          obtain ⟨k, zs, hk, rfl, hzl, hb, hW, hC⟩ := hrel
          have hbl : (bs.length : Int) ≤ 1048576 := by have := hW.bounds; omega
          by_cases hlt : k < bs.length
          · obtain ⟨q, rfl, hq1⟩ : ∃ q, A5 = some ⟨q, 0, none⟩ ∧ wo.heap.size ≤ q := by
              rcases hb.2 with ⟨_, e⟩ | ⟨q, cap, cur, e, e2, _⟩
              · omega
              · simp at e; exact ⟨q, e.1, e2⟩
            have hcx := (hb.cellAt k (by omega)).trans (cellsOf_get (k := .u8) (show k < zs.length by omega))
            have hfx := hb.frozenAt k
            generalize zs[k] = x at hcx
            have hst := (hb.stored k (.int .u8 ((x + 3) % 256))).1
            rw [show (cellsOf .u8 zs).set k (.int .u8 ((x + 3) % 256)) = cellsOf .u8 (zs.set k ((x + 3) % 256)) by simp [cellsOf, List.map_set]] at hst
            have hcq : Chg [q] wr (wr.setCell ⟨q, k, none⟩ (.int .u8 ((x + 3) % 256))) := (Chg.refl [q] wr).setCell (.inl (by simp)) _
            have hbq1 := hbr5 q rfl
            have hW' := hW.chg hcq (by simp; exact fun e => hbq1.1 e.symm) (fun j hj hm => by simp at hm; subst hm; exact hbq1.2 hj)
            have hC' := hC.then hcq (fun y hy => by simp at hy; right; omega)
            replace hst := Lib.hid hst
            replace hW' := Lib.hid hW'
            replace hC' := Lib.hid hC'
            clear hb hW hC hcq hbq1
            go_wp2_with fail
            go_roundw
            case rel => exact ⟨k + 1, zs.set k ((x + 3) % 256), by omega, by go_num, by simpa using hzl, hst.out, hW'.out, hC'.out⟩
            case measure => simp [intOf]; omega
          · go_wp2_with fail
            refine (bytes_str wr g hW _ rfl _ rfl).mono ?_
            rintro e w6 ⟨A6, c6, rfl, hs6, -, hC6⟩
            go_wp2
            go_ret
            exact ⟨rfl, (hC.trans hC6).below⟩
end Go.Proofs.Ytjfbbobaghdocaa
