/- Contract of package tail's Pieces. Conditions: as it states. -/
import Derived.Test.YtncoedoiakaedaaDoorBag
set_option linter.unusedVariables false
set_option linter.unusedSimpArgs false
namespace Go.Proofs.YtncoedoiakaedaaDoor
open Go.RowKit Tail
namespace Tl
theorem clone_u8 (w : World) (A : Option Addr) (c : Nat) (x : List UInt8) (h : Sl w 1 (.slice A x.length c) x.length (cellsOf .u8 (ns x))) (hn : x.length ≤ 16777216) :
    Calls Tryd.prog 40 #[.slice A x.length c] w fun e w' => ∃ A' c', e = .returned (.slice A' x.length c') ∧ w'.ownsRow w.heap.size 5 1 (.slice A' x.length c') x.length (cellsOf .u8 (ns x)) ∧ Chg [] w w' := by
  refine (clone_any w (.slice A x.length c) (ns x) (by rw [ns_length]; exact h) (by rw [ns_length]; omega)).mono ?_
  rintro e w' ⟨A', c', rfl, h1, h2⟩
  rw [ns_length] at h1 ⊢
  exact ⟨A', c', rfl, h1, h2⟩
set_option maxRecDepth 100000 in
set_option maxHeartbeats 4000000 in
theorem pieces_any (w : World) (t : List UInt8) (A : Option Addr) (n c m : Nat) (hn : t.length = n) (hl : n ≤ 262144) (hm : 1 ≤ m) (hm2 : m ≤ 1048576) (hS : Sl w 1 (.slice A n c) n (cellsOf .u8 (ns t))) :
    Calls Tryd.prog 24 #[.slice A n c, .int .i64 m] w fun e w' => ∃ v, e = .returned (.tuple #[v, .int .i64 0]) ∧ Bag (fun k => w.heap.size ≤ k) w' w.heap.size v (pieces t m) ∧ Chg [] w w' := by
  have hsh := Lib.hid (shortest_any w t A n c hn (by omega) hS)
  have hsub : shortest t ≤ n := by
    unfold shortest
    split
    · exact Nat.zero_le _
    · rename_i h
      have := longest_lt (b := t.reverse) (by simpa using h)
      rw [List.length_reverse] at this
      omega
  have hpc : pieces t m = if shortest t = 0 then [] else if shortest t ≤ m then [t.drop (n - shortest t)] else cuts t m := by unfold pieces; rw [hn]
  obtain ⟨s, hs⟩ : ∃ s, shortest t = s := ⟨_, rfl⟩
  rw [hs] at hpc hsub hsh
  have hk1 : ¬ ((m : Nat) : Int) < 1 := by omega
  have hk2 : ¬ (1048576 : Int) < ((m : Nat) : Int) := by omega
  replace hn := Lib.hid hn
  clear hs
  by_cases h0 : s = 0
  · subst h0
    rw [if_pos rfl] at hpc
    rw [hpc]
    clear hpc hS
    go_enter Tryd.func24, Tryd.ntmps24
    go_wp2_with (go_at_call 39; refine hsh.out.mono ?_; rintro e w1 ⟨rfl, hC1⟩; replace hC1 := Lib.hid hC1)
    go_wp2_with fail
    go_ret2
    exact ⟨_, rfl, ⟨[], bag_nil _ _ _⟩, hC1.out⟩
  rw [if_neg h0] at hpc
  have hs0 : ¬ ((s : Nat) : Int) = 0 := by omega
  by_cases hsm : s ≤ m
  · rw [if_pos hsm] at hpc
    rw [hpc]
    have hs1 : ((s : Nat) : Int) ≤ ((m : Nat) : Int) := by omega
    have hdl : (t.drop (n - s)).length = s := by rw [List.length_drop, hn.out]; omega
    obtain ⟨x, hx⟩ : ∃ x, t.drop (n - s) = x := ⟨_, rfl⟩
    obtain ⟨A', c', hsl, hSx, -⟩ := slice_from (P := Tryd.prog) 35 5 Tryd.underlying35 Tryd.info_u8 hS ((n : Int) - (s : Int)) (by omega) s (by omega)
    rw [show ((n : Int) - (s : Int)).toNat * 1 = n - s by omega, cellsOf_drop, ns_drop, hx] at hSx
    rw [hx] at hdl ⊢
    have hcl := Lib.hid (fun W (hW : Chg [] w W) => clone_u8 W A' c' x (by rw [hdl]; exact hSx.chg hW (by simp)) (by omega))
    rw [hdl] at hcl
    replace hdl := Lib.hid hdl
    clear hpc hS hx hSx
    go_enter Tryd.func24, Tryd.ntmps24
    go_wp2_with (go_at_call 39; refine hsh.out.mono ?_; rintro e w1 ⟨rfl, hC1⟩; replace hC1 := Lib.hid hC1)
    refine (hcl.out _ hC1.out).mono ?_
    rintro e w2 ⟨A2, c2, rfl, hO, hC2⟩
    have hbk : Hid (∀ k, (Value.slice A2 s c2).ownBlock = some k → w.heap.size ≤ k) := Lib.hid (fun k hk => Nat.le_trans hC1.out.size (own_lt' hO k hk).1)
    have hC3 := Lib.hid ((hC1.out.trans hC2).alloc (.cells #[.slice A2 s c2] 35 (0, 0)))
    have hO2 := Lib.hid (own_chg hO ((Chg.refl [] w2).alloc (.cells #[.slice A2 s c2] 35 (0, 0))) (by simp))
    replace hC2 := Lib.hid hC2
    clear hO hC1 hcl hsh hsl
    go_wp2_with (at_builtin; refine wpList_append_sl rfl (.tmp 51) (.tmp 59) 47 rfl w.heap.size 35 (Value.slice none 0 0) 1 24 Tryd.underlying47 Tryd.info_bs rfl (by decide) (Value.slice none 0 0) 0 [] rfl (World.ownsRow_nil _ _ _ _) _ 1 [.slice A2 s c2] rfl (sl_new _ [.slice A2 s c2] 35 1 rfl (by decide)) (by intro u hu; simp at hu; subst hu; rfl) 1 rfl (by decide) (by decide) hC3.out.size ?_)
    intro A4 c4 w4 hO4 hC4 hat
    have hb := (bag_nil (fun k => w.heap.size ≤ k) (w2.alloc (.cells #[.slice A2 s c2] 35 (0, 0))) w.heap.size).snoc (x := x) (A := A2) (c := c2) (by rw [hdl.out]; exact own_sl hO2.out) (by intro _ k h; refine ⟨by simp [Value.ownBlock], ?_⟩; have := hbk.out k (by rw [hdl.out] at h; exact h); exact this) (by rw [hdl.out]; exact hO4) hC4 (by rw [size_alloc]; exact hat)
    have hC5 := Lib.hid (hC3.out.trans (hC4.mono (by simp [Value.ownBlock])))
    replace hb := Lib.hid hb
    clear hO4 hC4 hat hC3 hO2 hC2
    go_wp2_with fail
    go_ret2
    exact ⟨_, rfl, ⟨_, hb.out⟩, hC5.out⟩
  · rw [if_neg hsm] at hpc
    rw [hpc]
    have hs1 : ¬ ((s : Nat) : Int) ≤ ((m : Nat) : Int) := by omega
    obtain ⟨cnt, hcnt⟩ : ∃ q, (n + m - 1) / m = q := ⟨_, rfl⟩
    have hq : Int.tdiv ((n : Int) + (m : Int) - 1) (m : Int) = (cnt : Int) := by
      rw [← hcnt, Int.natCast_ediv, Int.tdiv_eq_ediv_of_nonneg (by omega)]
      congr 1; omega
    have hct : cuts t m = (List.range cnt).map (fun i => (t.drop (i * m)).take m) := by unfold cuts; rw [hn.out, hcnt]
    have hcle : cnt ≤ n := by
      rw [← hcnt]
      have h1 : n + m - 1 ≤ n * m + (m - 1) := by
        have := Nat.le_mul_of_pos_right n hm
        omega
      exact Nat.le_of_lt_succ (Nat.div_lt_of_lt_mul (by rw [Nat.mul_comm, Nat.succ_mul]; omega))
    have hlow : ∀ i, i < cnt → i * m < n := by
      intro i hi
      rw [← hcnt] at hi
      have h1 := Nat.div_mul_le_self (n + m - 1) m
      have h2 : (i + 1) * m ≤ (n + m - 1) / m * m := Nat.mul_le_mul_right _ hi
      rw [Nat.succ_mul] at h2
      omega
    rw [hct]
    have hm0 : ¬ ((m : Nat) : Int) = 0 := by omega
    have hs0b : (((s : Nat) : Int) == 0) = false := by rw [beq_eq_false_iff_ne]; exact hs0
    replace hS := Lib.hid hS
    replace hlow := Lib.hid hlow
    replace hq' := Lib.hid hq
    clear hpc hct hcnt
    go_enter Tryd.func24, Tryd.ntmps24
    go_wp2_with (go_at_call 39; refine hsh.out.mono ?_; rintro e w1 ⟨rfl, hC1⟩; replace hC1 := Lib.hid hC1)
    go_loopg [6, 8, 24] cnt (fun gk v6 v8 v24 wr => ∃ i : Nat, v24 = .int .i64 i ∧ i ≤ cnt ∧ gk = cnt - i ∧ ∃ A6 c6 cells, v6 = .slice A6 i c6 ∧ Hid (BagC (fun k => w.heap.size ≤ k) wr w.heap.size v6 ((List.range i).map (fun i => (t.drop (i * m)).take m)) cells) ∧ Hid (Chg [] w wr))
    case atStart => exact ⟨0, rfl, by omega, by omega, none, 0, [], rfl, Lib.hid (bag_nil _ _ _), hC1⟩
    case round =>
      obtain ⟨i, rfl, hi, rfl, A6, c6, cells, rfl, hb, hC⟩ := hrel
      by_cases hlt : i < cnt
      · have hlo := hlow.out i hlt
        obtain ⟨lo, hlo9⟩ : ∃ q, i * m = q := ⟨_, rfl⟩
        have e1 : ((i : Nat) : Int) * ((m : Nat) : Int) = (lo : Int) := by rw [← hlo9]; exact (Int.natCast_mul i m).symm
        have e2 : (((i : Nat) : Int) + 1) * ((m : Nat) : Int) = ((lo + m : Nat) : Int) := by rw [← hlo9, show (i : Int) + 1 = ((i + 1 : Nat) : Int) by omega, ← Int.natCast_mul, Nat.succ_mul]
        rw [hlo9] at hlo
        obtain ⟨up, hup⟩ : ∃ q, lo + m = q := ⟨_, rfl⟩
        rw [hup] at e2
        obtain ⟨hh, hhh⟩ : ∃ q, min n up = q := ⟨_, rfl⟩
        obtain ⟨x, hx⟩ : ∃ x, (t.drop lo).take m = x := ⟨_, rfl⟩
        have hxl : x.length = hh - lo := by rw [← hx, List.length_take, List.length_drop, hn.out]; omega
        have hnc : n ≤ c := by obtain ⟨_, _, e0, _, h1, _⟩ := hS.out; simp at e0; omega
        have hcl0 : ¬ c = lo := by omega
        have hSx := ((hS.out.chg hC.out (by simp)).upto hh (by omega)).from lo (by omega) (A.map (fun x => x.add lo)) (by rw [if_neg hcl0, Nat.mul_one])
        have hxe : ((ns t).take (hh * 1)).drop (lo * 1) = ns x := by
          rw [ns_take, ns_drop, ← hx, Nat.mul_one, Nat.mul_one, List.drop_take]
          congr 1
          rcases Nat.lt_or_ge n up with h | h
          · rw [List.take_of_length_le (by rw [List.length_drop, hn.out]; omega), List.take_of_length_le (by rw [List.length_drop, hn.out]; omega)]
          · rw [show hh - lo = m by omega]
        rw [cellsOf_take, cellsOf_drop, hxe] at hSx
        have hcl := Lib.hid (clone_u8 _ _ _ x (by rw [hxl]; exact hSx) (by omega))
        rw [hxl] at hcl
        have w1 := IntWalk.i64_in (lo : Int) (by omega)
        have w2 := IntWalk.i64_in (up : Int) (by omega)
        replace hx := Lib.hid (show (List.range (i + 1)).map (fun i => (t.drop (i * m)).take m) = (List.range i).map (fun i => (t.drop (i * m)).take m) ++ [x] by rw [List.range_succ, List.map_append, ← hx, ← hlo9]; rfl)
        replace hxl := Lib.hid hxl
        have hlen : Hid (((List.range i).map (fun i => (t.drop (i * m)).take m)).length = i) := Lib.hid (by simp)
        clear hlo9 hlow hS hSx hxe
        rcases Nat.lt_or_ge up n with h | h
        · have h9 : (up : Int) < (n : Int) := by omega
          have h6 : ¬ (n : Int) < (up : Int) := by omega
          obtain rfl : up = hh := by omega
          have h8 : up ≤ n := by omega
          have h7 : lo ≤ up := by omega
          clear hhh h hup
          go_wp2_with fail
          refine hcl.out.mono ?_
          rintro e w2 ⟨A2, c2, rfl, hO, hC2⟩
          obtain ⟨ob, hob⟩ : ∃ ob : Obj, ob = .cells #[.slice A2 (up - lo) c2] 35 (0, 0) := ⟨_, rfl⟩
          have hne : Hid (0 < x.length → ∀ k, (Value.slice A2 x.length c2).ownBlock = some k → (Value.slice A6 i c6).ownBlock ≠ some k ∧ w.heap.size ≤ k) := Lib.hid (by
            intro _ k h1
            rw [hxl.out] at h1
            have h3 := own_lt' hO k h1
            have h5 := hC.out.size
            refine ⟨fun h2 => ?_, by omega⟩
            have h4 := own_lt' hb.out.1 k h2
            omega)
          have hC3 := Lib.hid ((hC.out.trans hC2).alloc ob)
          have hO2 := Lib.hid (own_sl (own_chg hO ((Chg.refl [] w2).alloc ob) (by simp)))
          have hb2 := Lib.hid ((hb.out.chg hC2).chg ((Chg.refl [] w2).alloc ob))
          have ho2 := hb2.out.1
          rw [hlen.out] at ho2
          replace ho2 := Lib.hid ho2
          rw [hob] at hC3 hO2 hb2 ho2
          clear hO hC2 hC hcl hb hob
          go_wp2_with (at_builtin; refine wpList_append_sl rfl (.tmp 27) (.tmp 41) 47 rfl w.heap.size 35 (Value.slice none 0 0) 1 24 Tryd.underlying47 Tryd.info_bs rfl (by decide) _ i cells rfl ho2.out _ 1 [.slice A2 (up - lo) c2] rfl (sl_new _ [.slice A2 (up - lo) c2] 35 1 rfl (by decide)) (by intro u hu; simp at hu; subst hu; rfl) (i + 1) rfl (by omega) (by decide) hC3.out.size ?_)
          intro A4 c4 w4 hO4 hC4 hat
          have hb4 := hb2.out.snoc (x := x) (A := A2) (c := c2) (by rw [hxl.out]; exact hO2.out) hne.out (by rw [hlen.out, hxl.out]; exact hO4) hC4 (by rw [size_alloc]; exact hat)
          rw [← hx.out] at hb4
          have hC5 := Lib.hid (hC3.out.then hC4 (fun k hk => .inr (own_lt' ho2.out k (by simpa using hk)).1))
          replace hb4 := Lib.hid hb4
          clear hO4 hC4 hat hC3 hO2 hb2 ho2
          go_wp2_with fail
          go_roundg (cnt - (i + 1))
          case measure => omega
          case rel => exact ⟨i + 1, by simp, by omega, rfl, A4, c4, _, rfl, hb4, hC5⟩
        · have h9 : ¬ (up : Int) < (n : Int) := by omega
          obtain rfl : n = hh := by omega
          clear hhh hup
          go_wp2_with fail
          refine hcl.out.mono ?_
          rintro e w2 ⟨A2, c2, rfl, hO, hC2⟩
          obtain ⟨ob, hob⟩ : ∃ ob : Obj, ob = .cells #[.slice A2 (n - lo) c2] 35 (0, 0) := ⟨_, rfl⟩
          have hne : Hid (0 < x.length → ∀ k, (Value.slice A2 x.length c2).ownBlock = some k → (Value.slice A6 i c6).ownBlock ≠ some k ∧ w.heap.size ≤ k) := Lib.hid (by
            intro _ k h1
            rw [hxl.out] at h1
            have h3 := own_lt' hO k h1
            have h5 := hC.out.size
            refine ⟨fun h2 => ?_, by omega⟩
            have h4 := own_lt' hb.out.1 k h2
            omega)
          have hC3 := Lib.hid ((hC.out.trans hC2).alloc ob)
          have hO2 := Lib.hid (own_sl (own_chg hO ((Chg.refl [] w2).alloc ob) (by simp)))
          have hb2 := Lib.hid ((hb.out.chg hC2).chg ((Chg.refl [] w2).alloc ob))
          have ho2 := hb2.out.1
          rw [hlen.out] at ho2
          replace ho2 := Lib.hid ho2
          rw [hob] at hC3 hO2 hb2 ho2
          clear hO hC2 hC hcl hb hob
          go_wp2_with (at_builtin; refine wpList_append_sl rfl (.tmp 27) (.tmp 41) 47 rfl w.heap.size 35 (Value.slice none 0 0) 1 24 Tryd.underlying47 Tryd.info_bs rfl (by decide) _ i cells rfl ho2.out _ 1 [.slice A2 (n - lo) c2] rfl (sl_new _ [.slice A2 (n - lo) c2] 35 1 rfl (by decide)) (by intro u hu; simp at hu; subst hu; rfl) (i + 1) rfl (by omega) (by decide) hC3.out.size ?_)
          intro A4 c4 w4 hO4 hC4 hat
          have hb4 := hb2.out.snoc (x := x) (A := A2) (c := c2) (by rw [hxl.out]; exact hO2.out) hne.out (by rw [hlen.out, hxl.out]; exact hO4) hC4 (by rw [size_alloc]; exact hat)
          rw [← hx.out] at hb4
          have hC5 := Lib.hid (hC3.out.then hC4 (fun k hk => .inr (own_lt' ho2.out k (by simpa using hk)).1))
          replace hb4 := Lib.hid hb4
          clear hO4 hC4 hat hC3 hO2 hb2 ho2
          go_wp2_with fail
          go_roundg (cnt - (i + 1))
          case measure => omega
          case rel => exact ⟨i + 1, by simp, by omega, rfl, A4, c4, _, rfl, hb4, hC5⟩
      · obtain rfl : i = cnt := by omega
        replace hC := Lib.hid hC.out
        clear hS hlow
        go_wp2_with fail
        go_ret2
        exact ⟨_, rfl, ⟨_, hb.out⟩, hC.out⟩
end Tl
end Go.Proofs.YtncoedoiakaedaaDoor
