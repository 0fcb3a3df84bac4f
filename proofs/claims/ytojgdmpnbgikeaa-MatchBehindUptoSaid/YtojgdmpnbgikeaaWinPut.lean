/- Contracts of package window: Put and Most. Conditions: as each states. -/
import Derived.Test.YtojgdmpnbgikeaaWin
set_option linter.unusedVariables false
set_option linter.unusedSimpArgs false
namespace Go.Proofs.Ytojgdmpnbgikeaa
open Go.RowKit

theorem max0_of (a : Int) (h : 0 ≤ a) : max 0 a = a := by omega

def PutEnd (w : World) (g : Nat) (r : Option Nat) (kk m t : Int) (zs : List Int) (e : Ending) (w' : World) : Prop :=
  e = .returned (.tuple #[]) ∧ ∃ A' L' c', w'.heap[g]? = some (.cells #[.slice A' L' c', .int .i64 kk, .int .i64 m, .int .i64 t] 74 (0, 0)) ∧
      w'.ownsRow 0 5 1 (.slice A' L' c') L' (cellsOf .u8 zs) ∧ ((Value.slice A' L' c').ownBlock = r ∨ ∀ q, (Value.slice A' L' c').ownBlock = some q → w.heap.size ≤ q) ∧
      Chg (g :: r.toList) w w'

set_option maxHeartbeats 1000000 in
set_option maxRecDepth 100000 in
theorem put_flat (w : World) (g : Nat) (A Ab : Option Addr) (L c yy y cb : Nat) (k m t : Int) (xs ys : List Int)
    (hg : w.heap[g]? = some (.cells #[.slice A L c, .int .i64 k, .int .i64 m, .int .i64 t] 74 (0, 0)))
    (ho : w.ownsRow 0 5 1 (.slice A L c) L (cellsOf .u8 xs)) (hne : (Value.slice A L c).ownBlock ≠ some g)
    (A1 : Option Addr) (cb1 : Nat) (lit : Int) (hlit : ((yy : Int) ≤ m ∧ lit = 0) ∨ (m < yy ∧ lit = yy - m)) (hyy : (y : Int) = yy - lit)
    (hsl : ∀ w' : World, (Instr.slice 22 (.slice Ab yy cb) (some (.int .i64 lit)) none none).run Try.prog w' = .ok (.slice A1 y cb1) w')
    (hS : Sl w 1 (.slice A1 y cb1) y (cellsOf .u8 ys)) (hd : 0 < ys.length → (Value.slice A1 y cb1).ownBlock ≠ some g)
    (h1 : 1 ≤ m) (h2 : m ≤ 1048576) (h3 : 0 ≤ k) (h4 : k ≤ m) (h5 : 0 ≤ t) (h6 : t + yy ≤ 1152921504606846976) (hL : (L : Int) ≤ 2 * m) (hy : (y : Int) ≤ m)
    (hc : (L : Int) + y ≤ 2 * m) (kk : Int) (hk : kk = if k + yy ≤ m then k + yy else m) :
    Calls Try.prog 26 #[.pointer (some ⟨g, 0, none⟩), .slice Ab yy cb] w (PutEnd w g (Value.slice A L c).ownBlock kk m (t + yy) (xs ++ ys)) := by
  have c0 : w.cell? ⟨g, 0, none⟩ = some (.slice A L c) := by simp [World.cell?, hg]
  have c1 : w.cell? ⟨g, 1, none⟩ = some (.int .i64 k) := by simp [World.cell?, hg]
  have c2 : w.cell? ⟨g, 2, none⟩ = some (.int .i64 m) := by simp [World.cell?, hg]
  have c3 : w.cell? ⟨g, 3, none⟩ = some (.int .i64 t) := by simp [World.cell?, hg]
  have f1 : w.frozen? ⟨g, 1, none⟩ = false := by simp [World.frozen?, hg]
  have f0 : w.frozen? ⟨g, 0, none⟩ = false := by simp [World.frozen?, hg]
  have f3 : w.frozen? ⟨g, 3, none⟩ = false := by simp [World.frozen?, hg]
  have K := Lib.hid (And.intro hg (And.intro ho (And.intro hne (And.intro hS (And.intro hd (And.intro hk hyy))))))
  clear hg ho hne hS hd hk hyy
  have hx : (k + yy ≤ m ∧ (yy : Int) ≤ m) ∨ (m < k + yy ∧ (yy : Int) ≤ m) ∨ (m < k + yy ∧ m < yy) := by omega
  rcases hx with ⟨hx, hx2⟩ | ⟨hx, hx2⟩ | ⟨hx, hx2⟩
  all_goals
    rcases hlit with ⟨h9, rfl⟩ | ⟨h9, rfl⟩
    all_goals try omega
  all_goals
    go_enter Try.func26, Try.ntmps26
    go_wp2
    go_region
    go_wp2
    go_quiet (fail)
    obtain ⟨hg, ho, hne, hS1, hd, hk, hyy⟩ := K.out
    have hgl := lt_heap hg
    have hC : ∀ (u1 u2 : Value) (n : Nat), Chg [g] w (((w.setCell ⟨g, 3, none⟩ u1).setCell ⟨g, 1, none⟩ u2).drewN n) := fun u1 u2 n =>
      (((Chg.refl [g] w).setCell (.inl (by simp)) u1).setCell (.inl (by simp)) u2).drewN n
    have hA := fun (u1 u2 : Value) (n : Nat) => own_drewN (own_set (own_set ho g 3 u1 hne) g 1 u2 hne) n
    have hX := fun (u1 u2 : Value) (n : Nat) => hS1.chg (hC u1 u2 n) (fun h0 k hk hm => by simp at hm; subst hm; exact hd (by simpa using h0) hk)
    have hG := fun (u1 u2 : Value) (n : Nat) => blk_drewN (blk_set (blk_set hg 3 u1) 1 u2) n
    replace hC := Lib.hid hC
    replace hA := Lib.hid hA
    replace hX := Lib.hid hX
    replace hG := Lib.hid hG
    replace hne := Lib.hid hne
    replace hk := Lib.hid hk
    replace hyy := Lib.hid hyy
    clear hg ho hS1 hd K
    go_wp2_with (at_builtin; refine wpList_append_sl rfl (.tmp 92) (.tmp 93) 22 rfl 0 5 (.int .u8 0) 1 1 Try.underlying22 Try.info_u8 rfl (by decide) _ _ _ rfl (hA.out _ _ _) _ _ _ rfl (hX.out _ _ _) cellsOf_one (L + y) rfl (by omega) (by decide) (by simp) ?_)
    intro A' c' w1 hown' hch hat
    have hG1 := hch.heap (hG.out _ _ _) (by intro hm; exact hne.out (by simpa using hm))
    have q0 : w1.frozen? ⟨g, 0, none⟩ = false := by simp [World.frozen?, hG1]
    have q1 : w1.cell? ⟨g, 0, none⟩ = some (.slice A L c) := by simp [World.cell?, hG1]
    have hC1 := ((hC.out _ _ _).mono (S1 := g :: (Value.slice A L c).ownBlock.toList) (fun x hx => .inl (by simp at hx; simp [hx]))).then hch (fun x hx => .inl (by simp at hx; simp [hx]))
    have hne1 : (Value.slice A' (L + y) c').ownBlock ≠ some g := by
      rcases hat with h | h
      · rw [h]; exact hne.out
      · intro e; have := h g e; omega
    replace hne1 := Lib.hid hne1
    replace hG1 := Lib.hid hG1
    replace hC1 := Lib.hid hC1
    replace hown' := Lib.hid hown'
    replace hat := Lib.hid hat
    clear hch
    go_wp2
    go_end0
    refine ⟨rfl, A', L + y, c', ?_, own_set (by rw [cellsOf_append]; simpa using hown'.out) _ _ _ hne1.out, hat.out, hC1.out.setCell (.inl (by simp)) _⟩
    rw [blk_set hG1.out, hk.out]
    first | (rw [if_pos hx]; rfl) | (rw [if_neg (by omega)]; rfl)
set_option maxHeartbeats 1000000 in
set_option maxRecDepth 100000 in
theorem put_copy (w : World) (g : Nat) (A Ab : Option Addr) (L c yy y cb : Nat) (k m t : Int) (xs ys : List Int)
    (hg : w.heap[g]? = some (.cells #[.slice A L c, .int .i64 k, .int .i64 m, .int .i64 t] 74 (0, 0)))
    (ho : w.ownsRow 0 5 1 (.slice A L c) L (cellsOf .u8 xs)) (hne : (Value.slice A L c).ownBlock ≠ some g)
    (A1 : Option Addr) (cb1 : Nat) (lit : Int) (hlit : ((yy : Int) ≤ m ∧ lit = 0) ∨ (m < yy ∧ lit = yy - m)) (hyy : (y : Int) = yy - lit)
    (hsl : ∀ w' : World, (Instr.slice 22 (.slice Ab yy cb) (some (.int .i64 lit)) none none).run Try.prog w' = .ok (.slice A1 y cb1) w')
    (hS : Sl w 1 (.slice A1 y cb1) y (cellsOf .u8 ys)) (hd : 0 < ys.length → (Value.slice A1 y cb1).ownBlock ≠ some g)
    (hdr : 0 < ys.length → ∀ q, (Value.slice A1 y cb1).ownBlock = some q → (Value.slice A L c).ownBlock ≠ some q) (n : Nat) (hnm : (n : Int) = m - y)
    (h1 : 1 ≤ m) (h2 : m ≤ 1048576) (h3 : 0 ≤ k) (h4 : k ≤ m) (h5 : 0 ≤ t) (h6 : t + yy ≤ 1152921504606846976) (hL : (L : Int) ≤ 2 * m) (hy : (y : Int) ≤ m)
    (hc : 2 * m < (L : Int) + y) (kk : Int) (hk : kk = if k + yy ≤ m then k + yy else m) :
    Calls Try.prog 26 #[.pointer (some ⟨g, 0, none⟩), .slice Ab yy cb] w (PutEnd w g (Value.slice A L c).ownBlock kk m (t + yy) (xs.drop (L - n) ++ ys)) := by
  have c0 : w.cell? ⟨g, 0, none⟩ = some (.slice A L c) := by simp [World.cell?, hg]
  have c1 : w.cell? ⟨g, 1, none⟩ = some (.int .i64 k) := by simp [World.cell?, hg]
  have c2 : w.cell? ⟨g, 2, none⟩ = some (.int .i64 m) := by simp [World.cell?, hg]
  have c3 : w.cell? ⟨g, 3, none⟩ = some (.int .i64 t) := by simp [World.cell?, hg]
  have f1 : w.frozen? ⟨g, 1, none⟩ = false := by simp [World.frozen?, hg]
  have f0 : w.frozen? ⟨g, 0, none⟩ = false := by simp [World.frozen?, hg]
  have f3 : w.frozen? ⟨g, 3, none⟩ = false := by simp [World.frozen?, hg]
  have hnL : n < L := by omega
  obtain ⟨r, cur, rfl, hrow, hcap, hmax, hcs, htk⟩ : ∃ r cur, A = some ⟨r, 0, none⟩ ∧ w.heap[r]? = some (.cells cur 5 (0, 0)) ∧ L ≤ c ∧ c ≤ maxLen ∧ cur.size = c ∧ cur.toList.take L = cellsOf .u8 xs := by
    rcases ho.2 with ⟨hv, hn⟩ | ⟨q, cap, cur, hv, _, hq, hn, hm, hs, ht⟩
    · omega
    · simp only [Value.slice.injEq] at hv
      obtain ⟨rfl, _, rfl⟩ := hv
      exact ⟨q, cur, rfl, hq, hn, hm, by simpa using hs, by simpa using ht⟩
  have hxl : xs.length = L := by have := ho.1; simpa using this
  obtain ⟨A2, cb2, hs2, hS2, hb2⟩ := slice_from (P := Try.prog) 22 5 Try.underlying22 Try.info_u8 (own_sl ho) ((L : Int) - (m - y)) (by omega) n (by omega)
  have hS2 : Sl w 1 (.slice A2 n cb2) n (cellsOf .u8 (xs.drop (L - n))) := by
    have e2 : ((L : Int) - (m - y)).toNat * 1 = L - n := by omega
    rw [e2, cellsOf_drop] at hS2
    exact hS2
  obtain ⟨hs3, _, _⟩ := slice_upto (P := Try.prog) 22 5 Try.underlying22 Try.info_u8 (own_sl ho) (m - y) (by omega) n (by omega) (by omega)
  have hrg : r ≠ g := fun e => hne (by simp [Value.ownBlock, e])
  have hgl := lt_heap hg
  have hdr' : 0 < ys.length → ∀ q, (Value.slice A1 y cb1).ownBlock = some q → q ≠ r := fun h0 q hq e => hdr h0 q hq (by simp [Value.ownBlock, e])
  replace hdr := Lib.hid hdr'
  clear hdr'
  have hcl : (cellsOf .u8 (xs.drop (L - n))).length = n := by simp [hxl]; omega
  have K := Lib.hid (And.intro hg (And.intro ho (And.intro hS (And.intro hd (And.intro hk (And.intro hyy (And.intro hnm hcl)))))))
  have hmin : (cellsOf .u8 (xs.drop (L - n))).length = Nat.min n L := by rw [hcl]; exact (Nat.min_eq_left (by omega)).symm
  have hfit : 0 + (cellsOf .u8 (xs.drop (L - n))).length ≤ cur.size := by rw [hcl]; omega
  have hnl : n ≤ L := by omega
  have hR := fun (u1 u2 : Value) (n : Nat) => blk_drewN (blk_set_ne (blk_set_ne hrow hrg 3 u1) hrg 1 u2) n
  have hX2 := fun (u1 u2 : Value) (j : Nat) => hS2.chg (S := [g]) (w' := ((w.setCell ⟨g, 3, none⟩ u1).setCell ⟨g, 1, none⟩ u2).drewN j) ((((Chg.refl [g] w).setCell (.inl (by simp)) u1).setCell (.inl (by simp)) u2).drewN j) (fun _ k hk hm => by rw [hb2] at hk; simp [Value.ownBlock] at hk hm; omega)
  have hA2 := fun (u1 u2 : Value) (n : Nat) => own_drewN (own_set (own_set ho g 3 u1 hne) g 1 u2 hne) n
  have hXs := fun (u1 u2 : Value) (j : Nat) => hS.chg (S := [g]) (w' := ((w.setCell ⟨g, 3, none⟩ u1).setCell ⟨g, 1, none⟩ u2).drewN j) ((((Chg.refl [g] w).setCell (.inl (by simp)) u1).setCell (.inl (by simp)) u2).drewN j) (fun h0 k hk hm => by simp at hm; subst hm; exact hd (by simpa using h0) hk)
  have hG := fun (u1 u2 : Value) (n : Nat) => blk_drewN (blk_set (blk_set hg 3 u1) 1 u2) n
  have hCw := fun (u1 u2 : Value) (n : Nat) => ((((Chg.refl (g :: (Value.slice (some ⟨r, 0, none⟩) L c).ownBlock.toList) w).setCell (p := ⟨g, 3, none⟩) (.inl (by simp)) u1).setCell (p := ⟨g, 1, none⟩) (.inl (by simp)) u2).drewN n)
  replace hX2 := Lib.hid hX2
  replace hXs := Lib.hid hXs
  replace hG := Lib.hid hG
  replace hCw := Lib.hid hCw
  replace hR := Lib.hid hR
  replace hmin := Lib.hid hmin
  replace hfit := Lib.hid hfit
  replace hnl := Lib.hid hnl
  replace htk := Lib.hid htk
  replace hcs := Lib.hid hcs
  replace hxl := Lib.hid hxl
  replace hrg := Lib.hid hrg
  have hn0 : 0 ≤ m - (y : Int) := by omega
  have hn1 : (n : Int) ≤ m := by omega
  have hn2 : (L : Int) - (m - y) ≤ 2097152 := by omega
  have hn3 : 0 ≤ (L : Int) - (m - y) := by omega
  have e1 : IntKind.i64.wrap ((L : Int) - (m - y)) = (L : Int) - (m - y) := IntWalk.i64_in _ (by omega)
  replace e1 := Lib.hid e1
  clear hg ho hne hS hd hk hyy hb2 hnm hcl hS2 hrow
  have hx : (k + yy ≤ m ∧ (yy : Int) ≤ m) ∨ (m < k + yy ∧ (yy : Int) ≤ m) ∨ (m < k + yy ∧ m < yy) := by omega
  rcases hx with ⟨hx, hx2⟩ | ⟨hx, hx2⟩ | ⟨hx, hx2⟩
  all_goals
    rcases hlit with ⟨h9, rfl⟩ | ⟨h9, rfl⟩
    all_goals try omega
  all_goals
    go_enter Try.func26, Try.ntmps26
    go_wp2
    go_region
    go_wp2
    go_quiet (fail)
    go_wp2_with fail
    generalize hW1 : World.drewN _ _ = W1
    have G1 := hW1 ▸ hG.out _ _ _
    have R1 := hW1 ▸ hR.out _ _ _
    have X1 := hW1 ▸ hX2.out _ _ _
    have Y1 := hW1 ▸ hXs.out _ _ _
    have C1 := hW1 ▸ hCw.out _ _ _
    clear hW1 hG hR hX2 hXs hCw c0 c1 c2 c3 f0 f1 f3
    have c0 : W1.cell? ⟨g, 0, none⟩ = some (.slice (some ⟨r, 0, none⟩) L c) := by simp [World.cell?, G1]
    have f0 : W1.frozen? ⟨g, 0, none⟩ = false := by simp [World.frozen?, G1]
    replace G1 := Lib.hid G1
    replace R1 := Lib.hid R1
    replace X1 := Lib.hid X1
    replace Y1 := Lib.hid Y1
    replace C1 := Lib.hid C1
    have e2 := e1.out
    go_still_tail 16, (by kernel_rfl)
    go_wp2_with (refine wpList_copy_row (o := ⟨some 78, _, _, _, _, _⟩) rfl (.tmp 65) (.tmp 77) 22 22 rfl 5 Try.underlying22 (by kernel_rfl) A2 L c n cb2 r 0 rfl rfl cur 5 (by exact R1.out) (cellsOf .u8 (xs.drop (L - n))) hmin.out (by exact X1.out) hnl.out hfit.out cellsOf_one ?_)
    intro W2 hr2 hch2
    obtain ⟨hg, ho, hS, hd, hk, hyy, hnm, hcl⟩ := K.out
    have hrg' := hrg.out
    have G2 := hch2.heap (k := g) G1.out (by simp; omega)
    have Y2 := Y1.out.chg (w' := W2) (S := [r]) (((Chg.refl [r] W1).drew).trans hch2) (fun h0 q hq hm => by simp at hm; exact hdr.out (by simpa using h0) q hq hm)
    have O2 : W2.ownsRow 0 5 1 (.slice (some ⟨r, 0, none⟩) n c) n (cellsOf .u8 (xs.drop (L - n))) := by
      refine ⟨by simpa using hcl, .inr ⟨r, c, _, rfl, Nat.zero_le _, hr2, by omega, hmax, ?_, ?_⟩⟩
      · have := hcs.out; have hxl := hxl.out; simp; omega
      · simp; rw [List.take_append_of_le_length (by rw [hcl]; omega), List.take_of_length_le (by rw [hcl]; omega)]
    have C2 : Chg (g :: (Value.slice (some ⟨r, 0, none⟩) L c).ownBlock.toList) w W2 := C1.out.drew.trans (hch2.mono (S1 := g :: (Value.slice (some ⟨r, 0, none⟩) L c).ownBlock.toList) (fun x hx => .inl (by simp at hx; simp [Value.ownBlock, hx])))
    have d0 : W2.cell? ⟨g, 0, none⟩ = some (.slice (some ⟨r, 0, none⟩) L c) := by simp [World.cell?, G2]
    have e0 : W2.frozen? ⟨g, 0, none⟩ = false := by simp [World.frozen?, G2]
    have O3 := own_set O2 g 0 (.slice (some ⟨r, 0, none⟩) n c) (by simp [Value.ownBlock]; omega)
    have Y3 := Y2.chg ((Chg.refl [g] W2).setCell (p := ⟨g, 0, none⟩) (.inl (by simp)) (.slice (some ⟨r, 0, none⟩) n c)) (fun h0 q hq hm => by simp at hm; subst hm; exact hd (by simpa using h0) hq)
    have G3 := blk_set G2 0 (.slice (some ⟨r, 0, none⟩) n c)
    have C3 := C2.setCell (p := ⟨g, 0, none⟩) (.inl (by simp)) (.slice (some ⟨r, 0, none⟩) n c)
    replace G3 := Lib.hid G3
    replace O3 := Lib.hid O3
    replace Y3 := Lib.hid Y3
    replace C3 := Lib.hid C3
    replace hk := Lib.hid hk
    replace hyy := Lib.hid hyy
    replace hnm := Lib.hid hnm
    clear hg ho hS hd hcl G1 R1 X1 Y1 C1 G2 Y2 O2 C2 hr2 hch2 K c0 f0 e2 e1 hS2 hmin hfit htk hcs hs2 hsl
    go_wp2_with (at_builtin; refine wpList_append_sl rfl (.tmp 92) (.tmp 93) 22 rfl 0 5 (.int .u8 0) 1 1 Try.underlying22 Try.info_u8 rfl (by decide) _ _ _ rfl O3.out _ _ _ rfl Y3.out cellsOf_one (n + y) rfl (by omega) (by decide) (by simp) ?_)
    intro A' c' w1 hown' hch hat
    have hG1 := hch.heap G3.out (by simp [Value.ownBlock]; exact fun h => hrg' h.symm)
    have hC1 := C3.out.trans (hch.mono (S1 := g :: (Value.slice (some ⟨r, 0, none⟩) L c).ownBlock.toList) (fun x hx => .inl (by simp [Value.ownBlock] at hx; simp [Value.ownBlock, hx])))
    have hne1 : (Value.slice A' (n + y) c').ownBlock ≠ some g := by
      rcases hat with h | h
      · rw [h]; simp [Value.ownBlock]; omega
      · intro e; have := h g e; have := C3.out.size; simp only [World.size_setCell] at *; omega
    have hat' : (Value.slice A' (n + y) c').ownBlock = (Value.slice (some ⟨r, 0, none⟩) L c).ownBlock ∨ ∀ q, (Value.slice A' (n + y) c').ownBlock = some q → w.heap.size ≤ q := by
      rcases hat with h | h
      · left; rw [h]; try rfl
      · right; intro q hq; have := h q hq; have := C3.out.size; simp only [World.size_setCell] at *; omega
    have q0 : w1.frozen? ⟨g, 0, none⟩ = false := by simp [World.frozen?, hG1]
    have q1 : w1.cell? ⟨g, 0, none⟩ = some (.slice (some ⟨r, 0, none⟩) n c) := by simp [World.cell?, hG1]
    replace hne1 := Lib.hid hne1
    replace hG1 := Lib.hid hG1
    replace hC1 := Lib.hid hC1
    replace hown' := Lib.hid hown'
    replace hat := Lib.hid hat'
    clear hch hat' G3 O3 Y3 C3 d0 e0
    go_wp2
    go_end0
    refine ⟨rfl, A', n + y, c', ?_, own_set (by rw [cellsOf_append]; simpa using hown'.out) _ _ _ hne1.out, hat.out, hC1.out.setCell (.inl (by simp)) _⟩
    rw [blk_set hG1.out, hk.out]
    first | (rw [if_pos hx]; rfl) | (rw [if_neg (by omega)]; rfl)

def lastN (k : Nat) (l : List Int) : List Int := l.drop (l.length - k)
theorem lastN_length (k : Nat) (l : List Int) : (lastN k l).length = min k l.length := by simp [lastN]; omega
theorem lastN_suffix (k : Nat) (l : List Int) : ∃ p, l = p ++ lastN k l := ⟨l.take (l.length - k), by simp [lastN]⟩
theorem lastN_of_suffix {k : Nat} {l l' p : List Int} (h : l' = p ++ l) (hk : k ≤ l.length) : lastN k l' = lastN k l := by
  subst h; unfold lastN; rw [List.length_append, show p.length + l.length - k = p.length + (l.length - k) by omega, ← List.drop_drop]; simp
theorem suffix_lastN {l l' p : List Int} (h : l' = p ++ l) : lastN l.length l' = l := by
  rw [lastN_of_suffix h (Nat.le_refl _)]; simp [lastN]

def PutPost (w : World) (g : Nat) (r : Option Nat) (m t : Int) (bs : List Int) (e : Ending) (w' : World) : Prop :=
  e = .returned (.tuple #[]) ∧ ∃ r' h', Win w' g r' m t h' bs ∧ (∀ q, r' = some q → r = some q ∨ w.heap.size ≤ q) ∧ Chg (g :: r.toList) w w'

theorem put_post {w w' : World} {g : Nat} {r : Option Nat} {kk m t : Int} {zs bs : List Int} {e : Ending} (h : PutEnd w g r kk m t zs e w') (hz : ∃ p, zs = p ++ bs) (hk : kk = bs.length)
    (h1 : bs.length ≤ m) (h2 : 1 ≤ m) (h3 : m ≤ 1048576) (h4 : (zs.length : Int) ≤ 2 * m) (h5 : 0 ≤ t) : PutPost w g r m t bs e w' := by
  obtain ⟨he, A', L', c', hg, ho, hat, hc⟩ := h
  have hl : zs.length = L' := by have := ho.1; simpa using this
  subst hk
  refine ⟨he, _, L', ⟨A', c', zs, hg, ho, rfl, hz, h1, h2, h3, by omega, h5⟩, fun q hq => ?_, hc⟩
  rcases hat with h | h
  · left; rw [← h]; exact hq
  · right; exact h q hq

set_option maxRecDepth 100000 in
theorem put_any (w : World) (g : Nat) (r : Option Nat) (m t : Int) (h : Nat) (bs : List Int) (H : Win w g r m t h bs) (v : Value) (ys : List Int)
    (hS : Sl w 1 v ys.length (cellsOf .u8 ys)) (hd : 0 < ys.length → ∀ q, v.ownBlock = some q → q ≠ g ∧ r ≠ some q) (ht : t + ys.length ≤ 1152921504606846976) :
    Calls Try.prog 26 #[.pointer (some ⟨g, 0, none⟩), v] w (PutPost w g r m (t + ys.length) (lastN m.toNat (bs ++ ys))) := by
  have hne : ∀ q, r = some q → q ≠ g := fun q hq => (H.lt.2 q hq).2
  obtain ⟨A, c, xs, hg, ho, hr, ⟨pre, hp⟩, h1, h2, h3, h4, h5⟩ := H
  obtain ⟨Ab, cb, rfl, _⟩ := id hS
  have hxl : xs.length = h := by have := ho.1; simpa using this
  have hpl : xs.length = pre.length + bs.length := by rw [hp]; simp
  have hng : (Value.slice A h c).ownBlock ≠ some g := fun e => hne g (hr ▸ e) rfl
  -- the cut of what comes
  obtain ⟨lit, y, hlit, hy⟩ : ∃ (lit : Int) (y : Nat), (((ys.length : Int) ≤ m ∧ lit = 0) ∨ (m < ys.length ∧ lit = ys.length - m)) ∧ (y : Int) = ys.length - lit := by
    by_cases hx : (ys.length : Int) ≤ m
    · exact ⟨0, ys.length, .inl ⟨hx, rfl⟩, by omega⟩
    · exact ⟨ys.length - m, m.toNat, .inr ⟨by omega, rfl⟩, by omega⟩
  obtain ⟨A1, cb1, hsl, hS1, hb1⟩ := slice_from (P := Try.prog) 22 5 Try.underlying22 Try.info_u8 hS lit (by omega) y (by omega)
  have hS1 : Sl w 1 (.slice A1 y cb1) y (cellsOf .u8 (ys.drop (ys.length - y))) := by
    have e : lit.toNat * 1 = ys.length - y := by omega
    rw [e, cellsOf_drop] at hS1
    exact hS1
  have hd1 : 0 < (ys.drop (ys.length - y)).length → (Value.slice A1 y cb1).ownBlock ≠ some g := by rw [hb1]; intro h0 e; exact (hd (by simp at h0; omega) g e).1 rfl
  have hly : (ys.drop (ys.length - y)).length = y := by simp; omega
  have hym : (y : Int) ≤ m := by omega
  have hbl : (lastN m.toNat (bs ++ ys)).length = min m.toNat (bs.length + ys.length) := by rw [lastN_length]; simp
  by_cases hc : (h : Int) + y ≤ 2 * m
  · refine (put_flat w g A Ab h c ys.length y cb bs.length m t xs (ys.drop (ys.length - y)) hg ho hng A1 cb1 lit hlit hy hsl hS1 hd1 h2 h3 (by omega) h1 h5 ht h4 hym hc _ rfl).mono ?_
    intro e w' hE
    rw [hr] at hE
    refine put_post hE ?_ ?_ ?_ h2 h3 ?_ (by omega)
    · by_cases hx : (ys.length : Int) ≤ m
      · have : ys.length - y = 0 := by omega
        rw [this, List.drop_zero, hp]
        obtain ⟨p, hq⟩ := lastN_suffix m.toNat (bs ++ ys)
        exact ⟨pre ++ p, by rw [List.append_assoc, hq, ← List.append_assoc]; congr 2⟩
      · refine ⟨xs, ?_⟩
        congr 1
        rw [lastN_of_suffix (p := bs) rfl (by omega)]
        unfold lastN; congr 1; omega
    · rw [hbl]; split <;> omega
    · rw [hbl]; omega
    · rw [List.length_append, hly]; omega
  · have hn : ((m.toNat - y : Nat) : Int) = m - y := by omega
    refine (put_copy w g A Ab h c ys.length y cb bs.length m t xs (ys.drop (ys.length - y)) hg ho hng A1 cb1 lit hlit hy hsl hS1 hd1 (fun h0 q hq e => (hd (by simp at h0; omega) q (by rw [← hb1]; exact hq)).2 (by rw [← hr]; exact e)) (m.toNat - y) hn h2 h3 (by omega) h1 h5 ht h4 hym (by omega) _ rfl).mono ?_
    intro e w' hE
    rw [hr] at hE
    refine put_post hE ?_ ?_ ?_ h2 h3 ?_ (by omega)
    · by_cases hx : (ys.length : Int) ≤ m
      · have e1 : ys.length - y = 0 := by omega
        rw [e1, List.drop_zero]
        have e2 : lastN m.toNat (xs ++ ys) = xs.drop (h - (m.toNat - y)) ++ ys := by
          unfold lastN
          rw [List.drop_append_of_le_length (by simp; omega)]
          congr 2; simp; omega
        by_cases hx2 : m.toNat ≤ bs.length + ys.length
        · refine ⟨[], ?_⟩
          rw [← e2, lastN_of_suffix (l := bs ++ ys) (p := pre) (by rw [hp, List.append_assoc]) (by simp; omega)]; rfl
        · obtain ⟨p, hq⟩ : ∃ p, xs.drop (h - (m.toNat - y)) = p ++ bs := by
            refine ⟨pre.drop (h - (m.toNat - y)), ?_⟩
            rw [hp, List.drop_append_of_le_length (by omega)]
          refine ⟨p, ?_⟩
          rw [hq, List.append_assoc]
          have : lastN m.toNat (bs ++ ys) = bs ++ ys := by
            unfold lastN
            rw [show (bs ++ ys).length - m.toNat = 0 by simp; omega]; rfl
          rw [this]
      · refine ⟨xs.drop (h - (m.toNat - y)), ?_⟩
        congr 1
        rw [lastN_of_suffix (p := bs) rfl (by omega)]
        unfold lastN; congr 1; omega
    · rw [hbl]; split <;> omega
    · rw [hbl]; omega
    · rw [List.length_append, hly, List.length_drop]; omega
end Go.Proofs.Ytojgdmpnbgikeaa
