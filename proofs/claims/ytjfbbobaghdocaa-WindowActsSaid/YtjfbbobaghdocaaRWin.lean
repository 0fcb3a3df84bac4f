/- Contracts of the reference's window: trim, Cut, Set. Conditions: as each states. -/
import Derived.Test.YtjfbbobaghdocaaWinMost
import Derived.Test.YtjfbbobaghdocaaLib2
set_option linter.unusedVariables false
set_option linter.unusedSimpArgs false
namespace Go.Proofs.Ytjfbbobaghdocaa
open Go.RowKit

/-- The reference's window at block `g`; `q` is its row's block. -/
def RWin (w : World) (g : Nat) (q : Option Nat) (m t : Int) (bs : List Int) : Prop :=
  ∃ A c, w.heap[g]? = some (.cells #[.int .i64 m, .slice A bs.length c, .int .i64 t] 42 (0, 0)) ∧ Sl w 1 (.slice A bs.length c) bs.length (cellsOf .u8 bs) ∧ (Value.slice A bs.length c).ownBlock = q ∧ ∀ x, q = some x → x < w.heap.size ∧ x ≠ g
theorem RWin.lt {w : World} {g : Nat} {q : Option Nat} {m t : Int} {bs : List Int} (H : RWin w g q m t bs) : g < w.heap.size ∧ ∀ x, q = some x → x < w.heap.size ∧ x ≠ g := by
  obtain ⟨A, c, hg, _, _, h⟩ := H; exact ⟨lt_heap hg, h⟩
theorem RWin.chg {S : List Nat} {w w' : World} {g : Nat} {q : Option Nat} {m t : Int} {bs : List Int} (H : RWin w g q m t bs) (hc : Chg S w w') (h1 : g ∉ S) (h2 : ∀ x, q = some x → x ∉ S) : RWin w' g q m t bs := by
  obtain ⟨A, c, hg, hS, hn, hx⟩ := H
  exact ⟨A, c, hc.heap hg h1, hS.chg hc (fun _ k hk => h2 k (by rw [← hn]; exact hk)), hn, fun x h => ⟨Nat.lt_of_lt_of_le (hx x h).1 hc.size, (hx x h).2⟩⟩
/-- How the law reads it. -/
theorem RWin.open {w : World} {g : Nat} {q : Option Nat} {m t : Int} {bs : List Int} (H : RWin w g q m t bs) :
    ∃ A c, w.cell? ⟨g, 0, none⟩ = some (.int .i64 m) ∧ w.cell? ⟨g, 1, none⟩ = some (.slice A bs.length c) ∧ w.cell? ⟨g, 2, none⟩ = some (.int .i64 t) ∧ Sl w 1 (.slice A bs.length c) bs.length (cellsOf .u8 bs) := by
  obtain ⟨A, c, hg, hS, hn⟩ := H
  exact ⟨A, c, by simp [World.cell?, hg], by simp [World.cell?, hg], by simp [World.cell?, hg], hS⟩

def TrimEnd (w : World) (g : Nat) (q : Option Nat) (m t : Int) (bs : List Int) (e : Ending) (w' : World) : Prop :=
  e = .returned (.tuple #[]) ∧ ∃ q', RWin w' g q' m t bs ∧ (∀ x, q' = some x → q = some x ∨ w.heap.size ≤ x) ∧ Chg [g] w w'
theorem trim_any (w : World) (g : Nat) (q : Option Nat) (m t : Int) (bs : List Int) (H : RWin w g q m t bs) (h1 : 1 ≤ m) (h2 : m ≤ 1048576) (h3 : bs.length ≤ 2097152) :
    Calls Try.prog 23 #[.pointer (some ⟨g, 0, none⟩)] w (TrimEnd w g q m t (lastN m.toNat bs)) := by
  obtain ⟨A, c, hg, hS, hq, hn⟩ := H
  have c0 : w.cell? ⟨g, 0, none⟩ = some (.int .i64 m) := by simp [World.cell?, hg]
  have c1 : w.cell? ⟨g, 1, none⟩ = some (.slice A bs.length c) := by simp [World.cell?, hg]
  have f1 : w.frozen? ⟨g, 1, none⟩ = false := by simp [World.frozen?, hg]
  have hx : (bs.length : Int) ≤ m ∨ m < bs.length := by omega
  rcases hx with hx | hx
  · have hl : lastN m.toNat bs = bs := by unfold lastN; rw [show bs.length - m.toNat = 0 by omega, List.drop_zero]
    rw [hl]
    have K := Lib.hid (And.intro hg (And.intro hS (And.intro hq hn)))
    clear hg hS hn hq
    go_enter Try.func23, Try.ntmps23
    go_wp2
    go_quiet (fail)
    go_wp2
    go_end0
    obtain ⟨hg, hS, hq, hn⟩ := K.out
    exact ⟨rfl, q, ⟨A, c, hg, hS.chg ((Chg.refl [] w).drewN nq) (by simp), hq, hn⟩, fun x h => .inl h, (Chg.refl [g] w).drewN nq⟩
  · obtain ⟨n, hnn⟩ : ∃ n : Nat, n = m.toNat := ⟨_, rfl⟩
    obtain ⟨A', c', hsl, hS2, hb⟩ := slice_from (P := Try.prog) 22 5 Try.underlying22 Try.info_u8 hS ((bs.length : Int) - m) (by omega) n (by omega)
    have hll : (lastN m.toNat bs).length = n := by rw [lastN_length]; omega
    have hS3 : Sl w 1 (.slice A' n c') n (cellsOf .u8 (lastN m.toNat bs)) := by
      rw [Nat.mul_one, cellsOf_drop, show ((bs.length : Int) - m).toNat = bs.length - m.toNat by omega] at hS2; exact hS2
    have hn2 : (Value.slice A' n c').ownBlock = q := by rw [hb]; exact hq
    have hC := fun (k : Nat) (u : Value) => ((Chg.refl [g] w).drewN k).setCell (p := ⟨g, 1, none⟩) (.inl (by simp)) u
    have K := Lib.hid (And.intro hg (And.intro hS3 (And.intro hn2 (And.intro hn (And.intro hll hC)))))
    clear hg hS hn hS2 hS3 hn2 hll hnn hb hC hq
    have e1 : IntKind.i64.wrap ((bs.length : Int) - m) = (bs.length : Int) - m := IntWalk.i64_in _ (by omega)
    go_enter Try.func23, Try.ntmps23
    go_wp2
    go_quiet (fail)
    go_wp2
    go_region
    all_goals
      go_wp2
      go_end0
      obtain ⟨hg, hS, hq, hn, hll, hC⟩ := K.out
      refine ⟨rfl, q, ⟨A', c', ?_, ?_, ?_, ?_⟩, fun x h => .inl h, ?_⟩
      · rw [blk_set (blk_drewN hg _) 1, hll]; rfl
      · rw [hll]; exact hS.chg (hC _ _) (fun _ k hk hm => by simp at hm; subst hm; exact (hn k (by rw [← hq]; exact hk)).2 rfl)
      · rw [hll]; exact hq
      · intro x hx; exact ⟨by simpa using (hn x hx).1, (hn x hx).2⟩
      · exact hC _ _
theorem rcut_any (w : World) (g : Nat) (q : Option Nat) (m t : Int) (bs : List Int) (H : RWin w g q m t bs) :
    Calls Try.prog 19 #[.pointer (some ⟨g, 0, none⟩)] w (TrimEnd w g q m 0 []) := by
  obtain ⟨A, c, hg, hS, hq, hn⟩ := H
  have c0 : w.cell? ⟨g, 1, none⟩ = some (.slice A bs.length c) := by simp [World.cell?, hg]
  have f1 : w.frozen? ⟨g, 1, none⟩ = false := by simp [World.frozen?, hg]
  have f2 : w.frozen? ⟨g, 2, none⟩ = false := by simp [World.frozen?, hg]
  have c2 : w.cell? ⟨g, 2, none⟩ = some (.int .i64 t) := by simp [World.cell?, hg]
  have hg := Lib.hid hg
  clear hS hn hq
  go_enter Try.func19, Try.ntmps19
  go_wp2
  go_end0
  refine ⟨rfl, none, ⟨none, 0, blk_set (blk_set hg.out 1 _) 2 _, Sl.nil _ _, rfl, by simp⟩, by simp, ((Chg.refl [g] w).setCell (.inl (by simp)) _).setCell (.inl (by simp)) _⟩
theorem rset_any (w : World) (g : Nat) (q : Option Nat) (m t k : Int) (bs : List Int) (H : RWin w g q m t bs) (h1 : 1 ≤ k) (h2 : k ≤ 1048576) (h3 : bs.length ≤ 2097152) :
    Calls Try.prog 20 #[.pointer (some ⟨g, 0, none⟩), .int .i64 k] w (TrimEnd w g q k t (lastN k.toNat bs)) := by
  obtain ⟨A, c, hg, hS, hq, hn⟩ := H
  have f1 : w.frozen? ⟨g, 0, none⟩ = false := by simp [World.frozen?, hg]
  have c2 : w.cell? ⟨g, 0, none⟩ = some (.int .i64 m) := by simp [World.cell?, hg]
  have hC := (Chg.refl [g] w).setCell (p := ⟨g, 0, none⟩) (.inl (by simp)) (.int .i64 k)
  have H2 : RWin (w.setCell ⟨g, 0, none⟩ (.int .i64 k)) g q k t bs := ⟨A, c, blk_set hg 0 _, hS.chg hC (fun _ z hz hm => by simp at hm; subst hm; exact (hn z (by rw [← hq]; exact hz)).2 rfl), hq, fun x hx => ⟨by simpa using (hn x hx).1, (hn x hx).2⟩⟩
  have ht := Lib.hid (trim_any _ g q k t bs H2 h1 h2 h3)
  replace hC := Lib.hid hC
  have hsz := Lib.hid hC.out.size
  clear hg hS hn H2 hq
  go_enter Try.func20, Try.ntmps20
  go_wp2_with fail
  refine ht.out.mono ?_
  rintro e w' ⟨rfl, q', hR, hq', hC2⟩
  go_wp2
  go_end0
  exact ⟨rfl, q', hR, fun x hx => (hq' x hx).imp id (fun h => Nat.le_trans hsz.out h), hC.out.trans hC2⟩
end Go.Proofs.Ytjfbbobaghdocaa
