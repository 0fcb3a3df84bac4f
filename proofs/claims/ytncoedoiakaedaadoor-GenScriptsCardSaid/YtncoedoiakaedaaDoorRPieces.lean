/- The reference of layer 9: Pieces. Conditions: as it states. -/
import Derived.Test.YtncoedoiakaedaaDoorRTail
set_option linter.unusedVariables false
set_option linter.unusedSimpArgs false
namespace Go.Proofs.YtncoedoiakaedaaDoor
open Go.RowKit Tail Tl Tcl
namespace Rn
theorem cuts_step {r : List UInt8} {m : Nat} (hm : 1 ≤ m) (h : m < r.length) : cuts r m = r.take m :: cuts (r.drop m) m := by
  have h0 : r ≠ [] := by rintro rfl; simp at h
  have h1 : r.drop m ≠ [] := by intro e; have := congrArg List.length e; rw [List.length_drop] at this; simp at this; omega
  obtain ⟨k, hk⟩ : ∃ k, r.length = k + 1 := ⟨r.length - 1, by omega⟩
  rw [← cutsR_eq hm r.length r h0 (Nat.le_refl _), hk, cutsR, if_neg (by omega)]
  rw [cutsR_eq hm k (r.drop m) h1 (by rw [List.length_drop]; omega)]
theorem cuts_last {r : List UInt8} {m : Nat} (hm : 1 ≤ m) (h0 : r ≠ []) (h : r.length ≤ m) : cuts r m = [r] := by
  obtain ⟨k, hk⟩ : ∃ k, r.length = k + 1 := ⟨r.length - 1, by have := List.length_pos_iff.2 h0; omega⟩
  rw [← cutsR_eq hm r.length r h0 (Nat.le_refl _), hk, cutsR, if_pos h]
/-- A text that came in joins a row of texts. -/
theorem bag_push {w W W5 W6 : World} {A A2 A6 : Option Addr} {k c c2 c6 : Nat} {l : List (List UInt8)} {cells : List Value} {x : List UInt8} (hb : BagC (fun _ => True) W w.heap.size (.slice A k c) l cells) (hk : l.length = k) (hC : Chg [] w W) (h5 : Chg [] W W5)
    (hx : Sl w 1 (.slice A2 x.length c2) x.length (cellsOf .u8 (ns x))) (ho : W6.ownsRow w.heap.size 35 1 (.slice A6 (k + 1) c6) (k + 1) (cells ++ [.slice A2 x.length c2])) (h6 : Chg (Value.slice A k c).ownBlock.toList W5 W6)
    (hat : (Value.slice A6 (k + 1) c6).ownBlock = (Value.slice A k c).ownBlock ∨ ∀ q, (Value.slice A6 (k + 1) c6).ownBlock = some q → W5.heap.size ≤ q) :
    BagC (fun _ => True) W6 w.heap.size (.slice A6 (k + 1) c6) (l ++ [x]) (cells ++ [.slice A2 x.length c2]) ∧ Chg [] w W6 := by
  subst hk
  have hb5 := hb.chg h5
  refine ⟨hb5.snoc (hx.chg (hC.trans h5) (by simp)) (fun hp q hq => ⟨fun h => ?_, trivial⟩) ho h6 hat, (hC.trans h5).then h6 (fun q hq => .inr (own_lt' hb5.1 q (by simpa using hq)).1)⟩
  have h1 := hx.lt hp q hq
  have h2 := own_lt' hb5.1 q h
  omega
set_option maxRecDepth 100000 in
set_option maxHeartbeats 4000000 in
theorem rpieces_any (w : World) (t : List UInt8) (A : Option Addr) (n c m : Nat) (hn : t.length = n) (hn2 : n ≤ 262144) (hm : 1 ≤ m) (hm2 : m ≤ 1048576) (hS : Sl w 1 (.slice A n c) n (cellsOf .u8 (ns t))) :
    Calls Tryd.prog 29 #[.slice A n c, .int .i64 m] w fun e w' => ∃ A' c', e = .returned (.slice A' (pieces t m).length c') ∧ Bag (fun _ => True) w' w.heap.size (.slice A' (pieces t m).length c') (pieces t m) ∧ Chg [] w w' := by
  have hle := short_le t
  rw [hn] at hle
  have hpc : pieces t m = if shortest t = 0 then [] else if shortest t ≤ m then [t.drop (n - shortest t)] else cuts t m := by unfold pieces; rw [hn]
  have hsh := Lib.hid (rshort_any w t A n c hn hn2 hS)
  obtain ⟨s, hs⟩ : ∃ s, shortest t = s := ⟨_, rfl⟩
  rw [hs] at hle hpc hsh
  by_cases h0 : s = 0
  · subst h0
    rw [if_pos rfl] at hpc
    rw [hpc]
    clear hS hpc
    go_enter Tryd.func29, Tryd.ntmps29
    go_wp2_with fail
    refine hsh.out.mono ?_
    rintro e w2 ⟨rfl, hC2⟩
    replace hC2 := Lib.hid hC2
    go_wp2_with fail
    go_ret
    exact ⟨_, _, rfl, ⟨[], bag_nil _ _ _⟩, hC2.out⟩
  rw [if_neg h0] at hpc
  have hs0 : ¬ ((s : Nat) : Int) = 0 := by omega
  have hs0b : (((s : Nat) : Int) == 0) = false := by rw [beq_eq_false_iff_ne]; exact hs0
  by_cases hsm : s ≤ m
  · rw [if_pos hsm] at hpc
    rw [hpc]
    have hs1 : ((s : Nat) : Int) ≤ ((m : Nat) : Int) := by omega
    obtain ⟨x, hx⟩ : ∃ x, t.drop (n - s) = x := ⟨_, rfl⟩
    have hxl : x.length = s := by rw [← hx, List.length_drop, hn]; omega
    obtain ⟨A', c', hsl, hSx, -⟩ := slice_from (P := Tryd.prog) 35 5 Tryd.underlying35 Tryd.info_u8 hS ((n : Int) - (s : Int)) (by omega) s (by omega)
    rw [show ((n : Int) - (s : Int)).toNat * 1 = n - s by omega, cellsOf_drop, ns_drop, hx] at hSx
    rw [hx]
    replace hSx := Lib.hid hSx
    replace hxl := Lib.hid hxl
    clear hS hpc hx
    go_enter Tryd.func29, Tryd.ntmps29
    go_wp2_with fail
    refine hsh.out.mono ?_
    rintro e w2 ⟨rfl, hC2⟩
    obtain ⟨W5, hW5⟩ : ∃ W5, w2.alloc (.cells #[.slice A' s c'] 35 (0, 0)) = W5 := ⟨_, rfl⟩
    have h5 : Chg [] w2 W5 := by rw [← hW5]; exact (Chg.refl [] w2).alloc _
    have hnw : Hid (Sl W5 1 (.slice (some ⟨w2.heap.size, 0, none⟩) 1 1) 1 [.slice A' s c']) := Lib.hid (by rw [← hW5]; exact sl_new w2 [.slice A' s c'] 35 1 rfl (by decide))
    have hbs : Hid (w.heap.size ≤ W5.heap.size) := Lib.hid (Nat.le_trans hC2.size h5.size)
    replace hC2 := Lib.hid hC2
    replace h5 := Lib.hid h5
    clear hsh
    go_wp2_with (at_builtin; refine wpList_append_sl rfl (.tmp 15) (.tmp 22) 47 rfl w.heap.size 35 (Value.slice none 0 0) 1 24 Tryd.underlying47 Tryd.info_bs rfl (by decide) (Value.slice none 0 0) 0 [] rfl (World.ownsRow_nil _ _ _ _) _ 1 [.slice A' s c'] rfl hnw.out (by intro u hu; simp at hu; subst hu; rfl) 1 rfl (by decide) (by decide) hbs.out ?_)
    intro A6 c6 w6 hO6 hC6 hat
    obtain ⟨hb6, hC7⟩ := bag_push (x := x) (A2 := A') (c2 := c') (bag_nil (fun _ => True) w2 w.heap.size) rfl hC2.out h5.out (by rw [hxl.out]; exact hSx.out) (by rw [hxl.out]; exact hO6) hC6 hat
    replace hb6 := Lib.hid hb6
    replace hC7 := Lib.hid hC7
    clear hO6 hC6 hat hW5
    go_wp2_with fail
    go_ret
    exact ⟨_, _, rfl, ⟨_, hb6.out⟩, hC7.out⟩
  rw [if_neg hsm] at hpc
  have hs1 : ¬ ((s : Nat) : Int) ≤ ((m : Nat) : Int) := by omega
  rw [hpc]
  obtain ⟨R, hR⟩ : ∃ R, cuts t m = R := ⟨_, rfl⟩
  rw [hR]
  have ht0 : t ≠ [] := by rintro rfl; simp at hn; omega
  replace hS := Lib.hid hS
  replace hR := Lib.hid hR
  replace hn := Lib.hid hn
  replace ht0 := Lib.hid ht0
  clear hpc
  go_enter Tryd.func29, Tryd.ntmps29
  go_wp2_with fail
  refine hsh.out.mono ?_
  rintro e w2 ⟨rfl, hC2⟩
  replace hC2 := Lib.hid hC2
  clear hsh
  go_wp2_with fail
  go_loopg [0, 6] n (fun gk v0 v6 wr => ∃ (r : List UInt8) (A0 : Option Addr) (k c0 : Nat) (A6 : Option Addr) (j c6 : Nat) (done : List (List UInt8)) (cells : List Value), v0 = .slice A0 k c0 ∧ v6 = .slice A6 j c6 ∧ 1 ≤ k ∧ k ≤ n ∧ j + k ≤ n ∧ gk = k ∧ Hid (r.length = k) ∧ Hid (done.length = j) ∧ Hid (Sl w 1 (.slice A0 k c0) k (cellsOf .u8 (ns r))) ∧ Hid (done ++ cuts r m = R) ∧ Hid (BagC (fun _ => True) wr w.heap.size (.slice A6 j c6) done cells) ∧ Hid (Chg [] w wr))
  case atStart => exact ⟨t, A, n, c, none, 0, 0, [], [], rfl, rfl, by omega, Nat.le_refl _, by omega, rfl, hn, Lib.hid rfl, hS, Lib.hid (by rw [hR.out]; rfl), Lib.hid (bag_nil _ _ _), hC2⟩
  case round =>
    obtain ⟨r, A0, k, c0, A6, j, c6, done, cells, rfl, rfl, hk1, hkn, hjk, rfl, hrl, hdl, hSr, hcu, hb, hC⟩ := hrel
    by_cases hlt : m < gk
    · obtain ⟨hup, hSu, -⟩ := slice_upto (P := Tryd.prog) 35 5 Tryd.underlying35 Tryd.info_u8 hSr.out (m : Int) (by omega) m rfl (by omega)
      obtain ⟨A2, c2, hfr, hSf, -⟩ := slice_from (P := Tryd.prog) 35 5 Tryd.underlying35 Tryd.info_u8 hSr.out (m : Int) (by omega) (gk - m) (by omega)
      rw [Nat.mul_one, cellsOf_take, ns_take] at hSu
      rw [show ((m : Nat) : Int).toNat * 1 = m by omega, cellsOf_drop, ns_drop] at hSf
      have hcs : Hid ((done ++ [r.take m]) ++ cuts (r.drop m) m = R) := Lib.hid (by rw [← hcu.out, List.append_assoc]; exact congrArg (done ++ ·) (cuts_step hm (by rw [hrl.out]; exact hlt)).symm)
      have hx1 : (r.take m).length = m := by rw [List.length_take, hrl.out]; omega
      have hx2 : Hid ((r.drop m).length = gk - m) := Lib.hid (by rw [List.length_drop, hrl.out])
      obtain ⟨W5, hW5⟩ : ∃ W5, wr.alloc (.cells #[.slice A0 m c0] 35 (0, 0)) = W5 := ⟨_, rfl⟩
      have h5 : Chg [] wr W5 := by rw [← hW5]; exact (Chg.refl [] wr).alloc _
      have hnw : Hid (Sl W5 1 (.slice (some ⟨wr.heap.size, 0, none⟩) 1 1) 1 [.slice A0 m c0]) := Lib.hid (by rw [← hW5]; exact sl_new wr [.slice A0 m c0] 35 1 rfl (by decide))
      have hbs : Hid (w.heap.size ≤ W5.heap.size) := Lib.hid (Nat.le_trans hC.out.size h5.size)
      have hb5 := (hb.out.chg h5).1
      rw [hdl.out] at hb5
      replace hb5 := Lib.hid hb5
      replace hSu := Lib.hid hSu
      replace hSf := Lib.hid hSf
      replace h5 := Lib.hid h5
      replace hx1 := Lib.hid hx1
      have hgt : ((m : Nat) : Int) < ((gk : Nat) : Int) := by omega
      clear hcu
      go_wp2_with (at_builtin; refine wpList_append_sl rfl (.tmp 28) (.tmp 32) 47 rfl w.heap.size 35 (Value.slice none 0 0) 1 24 Tryd.underlying47 Tryd.info_bs rfl (by decide) _ j cells rfl hb5.out _ 1 [.slice A0 m c0] rfl hnw.out (by intro u hu; simp at hu; subst hu; rfl) (j + 1) rfl (by omega) (by decide) hbs.out ?_)
      intro A7 c7 w6 hO6 hC6 hat
      obtain ⟨hb6, hC7⟩ := bag_push (x := r.take m) (A2 := A0) (c2 := c0) hb.out hdl.out hC.out h5.out (by rw [hx1.out]; exact hSu.out) (by rw [hx1.out]; exact hO6) hC6 hat
      replace hb6 := Lib.hid hb6
      replace hC7 := Lib.hid hC7
      clear hO6 hC6 hat hW5 hb hC hb5 h5
      go_wp2_with fail
      go_roundg (gk - m)
      case measure => omega
      case rel => exact ⟨r.drop m, A2, gk - m, c2, A7, j + 1, c7, done ++ [r.take m], _, rfl, rfl, by omega, by omega, by omega, rfl, hx2, Lib.hid (by rw [List.length_append, hdl.out]; rfl), hSf, hcs, hb6, hC7⟩
    · have hgt : ¬ ((m : Nat) : Int) < ((gk : Nat) : Int) := by omega
      have hr0 : r ≠ [] := by rintro rfl; have := hrl.out; simp at this; omega
      have hfin : R = done ++ [r] := by rw [← hcu.out, cuts_last hm hr0 (by rw [hrl.out]; omega)]
      obtain ⟨W5, hW5⟩ : ∃ W5, wr.alloc (.cells #[.slice A0 gk c0] 35 (0, 0)) = W5 := ⟨_, rfl⟩
      have h5 : Chg [] wr W5 := by rw [← hW5]; exact (Chg.refl [] wr).alloc _
      have hnw : Hid (Sl W5 1 (.slice (some ⟨wr.heap.size, 0, none⟩) 1 1) 1 [.slice A0 gk c0]) := Lib.hid (by rw [← hW5]; exact sl_new wr [.slice A0 gk c0] 35 1 rfl (by decide))
      have hbs : Hid (w.heap.size ≤ W5.heap.size) := Lib.hid (Nat.le_trans hC.out.size h5.size)
      have hb5 := (hb.out.chg h5).1
      rw [hdl.out] at hb5
      replace hb5 := Lib.hid hb5
      replace h5 := Lib.hid h5
      replace hfin := Lib.hid hfin
      clear hcu hr0
      go_wp2_with (at_builtin; refine wpList_append_sl rfl (.tmp 37) (.tmp 39) 47 rfl w.heap.size 35 (Value.slice none 0 0) 1 24 Tryd.underlying47 Tryd.info_bs rfl (by decide) _ j cells rfl hb5.out _ 1 [.slice A0 gk c0] rfl hnw.out (by intro u hu; simp at hu; subst hu; rfl) (j + 1) rfl (by omega) (by decide) hbs.out ?_)
      intro A7 c7 w6 hO6 hC6 hat
      obtain ⟨hb6, hC7⟩ := bag_push (x := r) (A2 := A0) (c2 := c0) hb.out hdl.out hC.out h5.out (by rw [hrl.out]; exact hSr.out) (by rw [hrl.out]; exact hO6) hC6 hat
      have hRl : R.length = j + 1 := by rw [hfin.out, List.length_append, hdl.out]; rfl
      replace hb6 := Lib.hid hb6
      replace hC7 := Lib.hid hC7
      replace hRl := Lib.hid hRl
      clear hO6 hC6 hat hW5 hb hC hb5 h5
      go_wp2_with fail
      go_ret
      rw [hRl.out]
      exact ⟨A7, c7, rfl, ⟨_, by rw [hfin.out]; exact hb6.out⟩, hC7.out⟩
end Rn
end Go.Proofs.YtncoedoiakaedaaDoor
