/- The acts of WindowActs: how they read; the law's 'great'. No condition. -/
import Derived.Test.YtjfbbobaghdocaaProg
import Derived.Test.YtjfbbobaghdocaaLib2
import Derived.Test.YtjfbbobaghdocaaReads
import Derived.BigQuiet
set_option linter.unusedVariables false
set_option linter.unusedSimpArgs false
namespace Go.Proofs.Ytjfbbobaghdocaa
open Go.RowKit

/-- One act's three cells at `o`, and its bytes. -/
def ActAt (w : World) (b o : Nat) (kd N : Int) (A : Option Addr) (n c : Nat) (ys : List Int) : Prop :=
  w.cell? ⟨b, o, none⟩ = some (.int .i64 kd) ∧ w.cell? ⟨b, o + 1, none⟩ = some (.int .i64 N) ∧ w.cell? ⟨b, o + 2, none⟩ = some (.slice A n c) ∧ Sl w 1 (.slice A n c) n (cellsOf .u8 ys) ∧
    -9223372036854775808 ≤ N ∧ N ≤ 9223372036854775807 ∧ -9223372036854775808 ≤ kd ∧ kd ≤ 9223372036854775807
theorem i64_of {w : World} {u : Value} {d : Dt} (h : Reads w (.int .i64) u d) : ∃ n : Int, u = .int .i64 n ∧ -9223372036854775808 ≤ n ∧ n ≤ 9223372036854775807 := by
  cases h with
  | int h =>
    rename_i n
    have h' : IntKind.i64.min ≤ n ∧ n ≤ IntKind.i64.max := by simpa [Lit.wf] using h
    have m1 : IntKind.i64.min = -9223372036854775808 := rfl
    have m2 : IntKind.i64.max = 9223372036854775807 := rfl
    rw [m1, m2] at h'
    exact ⟨n, rfl, h'⟩
theorem int_of {w : World} {k : IntKind} {u : Value} {d : Dt} (h : Reads w (.int k) u d) : ∃ z : Int, u = .int k z := by
  cases h with
  | int h => exact ⟨_, rfl⟩
theorem ints_of {w : World} {k : IntKind} {u : Value} {d : Dt} (h : Reads w (.sl [.int k]) u d) : ∃ A n c ys, u = .slice A n c ∧ Sl w 1 (.slice A n c) n (cellsOf k ys) := by
  cases h with
  | sl U h0 h1 h2 hl hw hc hr =>
    rename_i A n c rows
    have key : ∀ i, i < n → ∃ z : Int, U i 0 = .int k z := fun i hi => by
      obtain ⟨row, hrow, hrl⟩ := hw i hi
      have hrl' : 0 < row.length := by rw [hrl]; simp
      have := hr i 0 row (.int k) row[0] hrow rfl (List.getElem?_eq_getElem hrl')
      exact int_of this
    obtain ⟨zs, hz, hzp⟩ := exists_rows n (fun i (z : Int) => U i 0 = .int k z) key
    refine ⟨A, n, c, zs, rfl, A, c, rfl, h0, h1, h2, by simp [hz], fun hx => ?_⟩
    have hn : 0 < n := by simp at hx; omega
    obtain ⟨ad, hA, _⟩ := hc 0 0 hn (by simp)
    refine ⟨ad, hA, fun j u hu => ?_⟩
    have hj : j < zs.length := by have := (List.getElem?_eq_some_iff.1 hu).1; simpa using this
    obtain ⟨ad', hA', hcell⟩ := hc j 0 (by omega) (by simp)
    rw [hA] at hA'; cases hA'
    have e1 : j * [Sh.int k].length + 0 = j := by simp
    rw [e1] at hcell
    rw [hcell, hzp j _ (List.getElem?_eq_getElem hj), ← hu, cellsOf_get hj]
/-- A slice of acts, as the walk reads it. -/
def ActsAt (w : World) (A : Option Addr) (n : Nat) : Prop :=
  n ≤ maxLen ∧ ∀ i, i < n → ∃ b o kd N A' n' c' ys, A = some ⟨b, o, none⟩ ∧ ActAt w b (o + i * 3) kd N A' n' c' ys
theorem acts_of {w : World} {u : Value} {d : Dt} (h : Reads w (.sl [.int .i64, .int .i64, .sl [.int .u8]]) u d) : ∃ A n c, u = .slice A n c ∧ ActsAt w A n := by
  cases h with
  | sl U h0 h1 h2 hl hw hc hr =>
    rename_i A n c rows
    refine ⟨A, n, c, rfl, by omega, fun i hi => ?_⟩
    obtain ⟨row, hrow, hrl⟩ := hw i hi
    have hr0 := hr i 0 row (.int .i64) (row[0]'(by rw [hrl]; simp)) hrow rfl (List.getElem?_eq_getElem _)
    have hr1 := hr i 1 row (.int .i64) (row[1]'(by rw [hrl]; simp)) hrow rfl (List.getElem?_eq_getElem _)
    have hr2 := hr i 2 row (.sl [.int .u8]) (row[2]'(by rw [hrl]; simp)) hrow rfl (List.getElem?_eq_getElem _)
    obtain ⟨kd, e0, k1, k2⟩ := i64_of hr0
    obtain ⟨N, e1, n1, n2⟩ := i64_of hr1
    obtain ⟨A', n', c', ys, e2, hS⟩ := ints_of hr2
    obtain ⟨ad, hA, c0⟩ := hc i 0 hi (by simp)
    obtain ⟨ad1, hA1, c1⟩ := hc i 1 hi (by simp)
    obtain ⟨ad2, hA2, c2⟩ := hc i 2 hi (by simp)
    rw [hA] at hA1 hA2; cases hA1; cases hA2
    rw [e0] at c0; rw [e1] at c1; rw [e2] at c2
    have hspot : ad.spot = none := by
      obtain ⟨ad0, hA0, c00⟩ := hc 0 0 (by omega) (by simp)
      rw [hA] at hA0; cases hA0
      exact World.cell?_spot (a := ad) (by simpa [Addr.add] using c00)
    obtain ⟨b, o, spot⟩ := ad
    simp only at hspot
    subst hspot
    have ha : ∀ j, (⟨b, o, none⟩ : Addr).add j = ⟨b, o + j, none⟩ := fun j => by unfold Addr.add; split <;> simp_all
    rw [ha] at c0 c1 c2
    exact ⟨b, o, kd, N, A', n', c', ys, hA, by simpa using c0, by simpa [Nat.add_assoc] using c1, by simpa [Nat.add_assoc] using c2, hS, n1, n2, k1, k2⟩
theorem ActAt.chg {w w' : World} {b o : Nat} {kd N : Int} {A : Option Addr} {n c : Nat} {ys : List Int} (h : ActAt w b o kd N A n c ys) (hc : Chg [] w w') : ActAt w' b o kd N A n c ys := by
  obtain ⟨a1, a2, a3, a4, rest⟩ := h
  exact ⟨hc.cell a1 (by simp), hc.cell a2 (by simp), hc.cell a3 (by simp), a4.chg hc (by simp), rest⟩
set_option maxHeartbeats 1000000 in
theorem great_any (A : Option Addr) (n c : Nat) (w : World) (h : ActsAt w A n) :
    Calls Try.prog 17 #[.slice A n c] w fun e w' => ∃ b, e = .returned (.bool b) ∧ (b = false → n ≤ 80 ∧ ∀ b o i kd N A' n' c' ys, i < n → A = some ⟨b, o, none⟩ → ActAt w b (o + i * 3) kd N A' n' c' ys → n' ≤ 80) ∧ Chg [] w w' := by
  obtain ⟨hm, hat⟩ := h
  have hm' : n ≤ 9223372036854775807 := by unfold maxLen at hm; omega
  clear hm
  by_cases hn : n ≤ 80
  · go_enter Try.func17, Try.ntmps17
    go_wp2
    go_loopw [10] (fun i wr => ∃ (k : Nat), k ≤ n ∧ i = .int .i64 k ∧ Hid (∀ b o i kd N A' n' c' ys, i < k → A = some ⟨b, o, none⟩ → ActAt w b (o + i * 3) kd N A' n' c' ys → n' ≤ 80) ∧ Hid (Chg [] w wr)) (fun i _ => n - (intOf i).toNat)
    case atStart => exact ⟨0, by omega, rfl, fun _ _ i _ _ _ _ _ _ hi => absurd hi (by omega), Chg.refl _ _⟩
    case round =>
      obtain ⟨k, hk, rfl, hsm, hC⟩ := hrel
      by_cases hlt : k < n
      · obtain ⟨b, o, kd, N, A', n', c', ys, rfl, hA⟩ := hat k hlt
        obtain ⟨a1, a2, a3, -⟩ := hA.chg hC.out
        have hA := Lib.hid hA
        by_cases hn' : n' ≤ 80
        · go_wp2
          go_roundw
          case rel =>
            refine ⟨k + 1, by omega, by go_num, ?_, ?_⟩
            · intro b1 o1 i1 kd1 N1 A1 n1 c1 ys1 hi1 e1 h1
              cases e1
              by_cases hik : i1 = k
              · subst hik
                have e3 := h1.2.2.1
                rw [hA.out.2.2.1] at e3
                cases e3; exact hn'
              · exact hsm.out _ _ i1 _ _ _ _ _ _ (by omega) rfl h1
            · first
              | exact hC.out.alloc _
              | exact (hC.out.alloc _).setCell (.inr (by simp; exact hC.out.size)) _
              | trace_state
          case measure => simp [intOf]; omega
        · go_wp2
          go_ret
          exact ⟨true, rfl, by simp, hC.out.alloc _⟩
      · obtain rfl : k = n := by omega
        go_wp2
        go_ret
        exact ⟨_, rfl, fun _ => ⟨hn, hsm.out⟩, hC.out⟩
  · go_enter Try.func17, Try.ntmps17
    go_wp2
    go_ret
    exact ⟨true, rfl, by simp, Chg.refl _ _⟩
end Go.Proofs.Ytjfbbobaghdocaa
