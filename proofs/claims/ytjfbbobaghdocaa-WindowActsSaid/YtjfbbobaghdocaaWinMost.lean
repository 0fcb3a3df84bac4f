/- Contracts of package window: Most. Conditions: as each states. -/
import Derived.Test.YtjfbbobaghdocaaWinPut
set_option linter.unusedVariables false
set_option linter.unusedSimpArgs false
namespace Go.Proofs.Ytjfbbobaghdocaa
open Go.RowKit

theorem most_bad (w : World) (g : Nat) (m : Int) (h : ¬ (1 ≤ m ∧ m ≤ 1048576)) :
    Calls Try.prog 15 #[.pointer (some ⟨g, 0, none⟩), .int .i64 m] w fun e w' => e = .returned (.int .i64 3) ∧ w = w' := by
  have hb : (decide (1 ≤ m) && decide (m ≤ 1048576)) = false := by
    simp; omega
  go_enter Try.func15, Try.ntmps15
  go_wp2_with (go_at_call 21; refine (may_any _ _).mono ?_; rintro e w' ⟨rfl, rfl⟩)
  go_ret
  exact ⟨rfl, rfl⟩

def MostPost (w : World) (g : Nat) (k t : Int) (bs : List Int) (e : Ending) (w' : World) : Prop :=
  e = .returned (.int .i64 0) ∧ ∃ r', Win w' g r' k t bs.length bs ∧ (∀ q, r' = some q → w.heap.size ≤ q) ∧ Chg [g] w w'

set_option maxHeartbeats 1000000 in
theorem most_good (w : World) (g : Nat) (r : Option Nat) (m t : Int) (h : Nat) (bs : List Int) (H : Win w g r m t h bs) (k : Int) (hk1 : 1 ≤ k) (hk2 : k ≤ 1048576) :
    Calls Try.prog 15 #[.pointer (some ⟨g, 0, none⟩), .int .i64 k] w (MostPost w g k t (lastN k.toNat bs)) := by
  have hne : ∀ q, r = some q → q ≠ g := fun q hq => (H.lt.2 q hq).2
  obtain ⟨A, c, xs, hg, ho, hr, ⟨pre, hp⟩, h1, h2, h3, h4, h5⟩ := H
  have hxl : xs.length = h := by have := ho.1; simpa using this
  have hpl : xs.length = pre.length + bs.length := by rw [hp]; simp
  have hng : (Value.slice A h c).ownBlock ≠ some g := fun e => hne g (hr ▸ e) rfl
  have hgl := lt_heap hg
  have hbl : (lastN k.toNat bs).length = min k.toNat bs.length := lastN_length _ _
  obtain ⟨n, hn⟩ : ∃ n : Nat, n = min k.toNat bs.length := ⟨_, rfl⟩
  have hmn : min (bs.length : Int) k = n := by omega
  obtain ⟨A', c', hsl, hS, hb⟩ := slice_from (P := Try.prog) 22 5 Try.underlying22 Try.info_u8 (own_sl ho) ((h : Int) - n) (by omega) n (by omega)
  have hS' : Sl w 1 (.slice A' n c') n (cellsOf .u8 (lastN k.toNat bs)) := by
    have e2 : ((h : Int) - n).toNat * 1 = h - n := by omega
    rw [e2, cellsOf_drop] at hS
    have : xs.drop (h - n) = lastN k.toNat bs := by
      rw [hp]; unfold lastN
      rw [show h - n = pre.length + (bs.length - k.toNat) by omega, ← List.drop_drop]; simp
    rw [← this]; exact hS
  have hcl : ∀ W, Sl W 1 (.slice A' n c') n (cellsOf .u8 (lastN k.toNat bs)) → Calls Try.prog 22 #[.slice A' n c'] W (CloneEnd W (lastN k.toNat bs)) :=
    fun W hW => clone_any W _ _ (by rw [hbl, ← hn]; exact hW) (by omega)
  have hS1 := fun (u : Value) => hS'.chg ((Chg.refl [g] w).setCell (p := ⟨g, 1, none⟩) (.inl (by simp)) u) (fun _ q hq hm => by rw [hb] at hq; simp at hm; subst hm; exact hng hq)
  have hG1 := fun (u : Value) => blk_set hg 1 u
  have hC1 := fun (u : Value) => (Chg.refl [g] w).setCell (p := ⟨g, 1, none⟩) (.inl (by simp)) u
  have c1 : w.cell? ⟨g, 1, none⟩ = some (.int .i64 bs.length) := by simp [World.cell?, hg]
  have f1 : w.frozen? ⟨g, 1, none⟩ = false := by simp [World.frozen?, hg]
  have e1 : IntKind.i64.wrap ((h : Int) - n) = (h : Int) - n := IntWalk.i64_in _ (by omega)
  have hb0 : (decide (1 ≤ k) && decide (k ≤ 1048576)) = true := by simp; omega
  have hb1 : (bs.length : Int) ≤ 1048576 := by omega
  replace hcl := Lib.hid hcl
  replace hS1 := Lib.hid hS1
  replace hG1 := Lib.hid hG1
  replace hC1 := Lib.hid hC1
  replace e1 := Lib.hid e1
  replace hbl := Lib.hid hbl
  replace hn := Lib.hid hn
  clear hg ho hr hp hxl hpl hng hS hS' hb h1 h2 h3 h4 hne
  have hx : (bs.length : Int) ≤ k ∧ (bs.length : Int) = n ∨ k < bs.length ∧ k = n := by omega
  replace hmn := Lib.hid hmn
  rcases hx with ⟨hx, hx2⟩ | ⟨hx, hx2⟩
  all_goals
    replace hx2 := Lib.hid hx2
    go_enter Try.func15, Try.ntmps15
    go_wp2_with (go_at_call 21; refine (may_any _ _).mono ?_; rintro e w' ⟨rfl, rfl⟩)
    generalize hW1 : World.setCell _ _ _ = W1
    have S1 := hW1 ▸ hS1.out _
    have G1 := hW1 ▸ hG1.out _
    have C1 := hW1 ▸ hC1.out _
    clear hW1 hS1 hG1 hC1 c1 f1
    have c0 : W1.cell? ⟨g, 0, none⟩ = some (.slice A h c) := by simp [World.cell?, G1]
    have c1 : W1.cell? ⟨g, 1, none⟩ = some (.int .i64 n) := by simp [World.cell?, G1]; exact hx2.out
    replace S1 := Lib.hid S1
    replace G1 := Lib.hid G1
    replace C1 := Lib.hid C1
    have e2 := e1.out
    go_region_with (
      go_at_call 22; refine (hcl.out _ (by exact S1.out)).mono ?_; rintro e w2 ⟨A2, c2, rfl, ho2, hc2⟩
      have G2 := hc2.heap (k := g) G1.out (by simp)
      have C2 := C1.out.drew.trans (hc2.mono (S1 := [g]) (by simp))
      have q0 : w2.frozen? ⟨g, 0, none⟩ = false := by simp [World.frozen?, G2]
      have q1 : w2.cell? ⟨g, 0, none⟩ = some (.slice A h c) := by simp [World.cell?, G2]
      have q2 : w2.cell? ⟨g, 2, none⟩ = some (.int .i64 m) := by simp [World.cell?, G2]
      have q3 : w2.frozen? ⟨g, 2, none⟩ = false := by simp [World.frozen?, G2]
      have hb2 : (Value.slice A2 (lastN k.toNat bs).length c2).ownBlock ≠ some g := by
        intro e; have := (ho2.lt g e).1; have := C1.out.size; simp only [World.size_drew] at *; omega
      have hb3 : ∀ q, (Value.slice A2 (lastN k.toNat bs).length c2).ownBlock = some q → w.heap.size ≤ q := by
        intro q e; have := (ho2.lt q e).1; have := C1.out.size; simp only [World.size_drew] at *; omega
      have ho3 : w2.ownsRow 0 5 1 (.slice A2 (lastN k.toNat bs).length c2) (lastN k.toNat bs).length (cellsOf .u8 (lastN k.toNat bs)) := by
        refine ⟨ho2.1, ?_⟩
        rcases ho2.2 with hx | ⟨q, cap, cur, hv, _, rest⟩
        · exact .inl hx
        · exact .inr ⟨q, cap, cur, hv, Nat.zero_le _, rest⟩
      replace G2 := Lib.hid G2
      replace C2 := Lib.hid C2
      replace hb2 := Lib.hid hb2
      replace hb3 := Lib.hid hb3
      replace ho3 := Lib.hid ho3
      clear ho2 hc2 S1 G1 C1 hcl e1 e2)
    all_goals
      go_wp2
      go_ret
      refine ⟨rfl, _, ⟨A2, c2, lastN k.toNat bs, ?_, own_set (own_set ho3.out _ _ _ hb2.out) _ _ _ hb2.out, rfl, ⟨[], rfl⟩, ?_, hk1, hk2, ?_, h5⟩, hb3.out, (C2.out.setCell (.inl (by simp)) _).setCell (.inl (by simp)) _⟩
      · have h1 := hbl.out
        have h2 := hn.out
        have h3 := hx2.out
        rw [blk_set (blk_set G2.out _ _)]
        have h4 : ((lastN k.toNat bs).length : Int) = n := by omega
        rw [h4]
        simp [h3]
      · have h1 := hbl.out
        omega
      · have h1 := hbl.out
        omega
end Go.Proofs.Ytjfbbobaghdocaa
