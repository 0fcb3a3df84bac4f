/- What the printed functions of package kmp come to, in plain Lean: the next state, the borders. No condition. -/
import Derived.Test.YtojgdmpnbgikeaaKmpSpec
import Derived.Test.YtojgdmpnbgikeaaPMatchFeedsx1
set_option linter.unusedVariables false
set_option linter.unusedSimpArgs false
namespace Go.Proofs.Ytojgdmpnbgikeaa
open Go.RowKit PMatchFeeds YtojgdmpnbgikeaaW.PrintWords
namespace Kmp
/-- With enough rounds it is so. -/
def Ev {α : Type} (g : Nat → Option α) (r : α) : Prop := ∃ K, ∀ k, K ≤ k → g k = some r
theorem Ev.step {α : Type} {g h : Nat → Option α} {r : α} (hh : Ev h r) (e : ∀ k, g (k + 1) = h k) : Ev g r := by
  obtain ⟨K, hK⟩ := hh
  refine ⟨K + 1, fun k hk => ?_⟩
  obtain ⟨k, rfl⟩ : ∃ q, k = q + 1 := ⟨k - 1, by omega⟩
  rw [e]; exact hK k (by omega)
theorem Ev.pure {α : Type} {g : Nat → Option α} {r : α} (e : ∀ k, g (k + 1) = some r) : Ev g r := by
  refine ⟨1, fun k hk => ?_⟩
  obtain ⟨k, rfl⟩ : ∃ q, k = q + 1 := ⟨k - 1, by omega⟩
  exact e k
theorem Ev.bind {α β : Type} {g : Nat → Option α} {r : α} {h : Nat → α → Option β} {s : β} (hg : Ev g r) (hh : Ev (fun k => h k r) s) : Ev (fun k => (g k).bind (h k)) s := by
  obtain ⟨K, hK⟩ := hg
  obtain ⟨M, hM⟩ := hh
  exact ⟨max K M, fun k hk => by simp only; rw [hK k (by omega)]; exact hM k (by omega)⟩
theorem wrap_in {i : Int} (h0 : -9223372036854775808 ≤ i) (h : i ≤ 9223372036854775807) : wrap64 i = i := by
  unfold wrap64; omega
theorem rd_get {l : List Int} {i : Nat} (h : i < l.length) : rd l (i : Int) = l[i] := by simp [rd, List.getD, h]
theorem rd_some {l : List Int} {i : Nat} {b : Int} (h : l[i]? = some b) : rd l (i : Int) = b := by simp [rd, List.getD, h]
theorem next_go {p back s : List Int} {x : Int} (hm : p.length ≤ 4611686018427387904) : ∀ (a : Nat), At p s x a → BackOk p back a → ∃ r : Nat, Ev (fun k => kmp_next_byte.l0 k p back a x) (r : Int) ∧ IsBest p (s ++ [x]) r := by
  intro a
  induction a using Nat.strongRecOn with
  | _ a ih =>
    intro hA hB
    have hal := hA.suf.1
    by_cases hh : ∃ hl : a < p.length, p[a] = x
    · obtain ⟨hl, hx⟩ := hh
      refine ⟨a + 1, Ev.step (h := fun k => kmp_next_byte.j1 k p back a x true) (Ev.pure fun k => ?_) fun k => ?_, hA.hit hl hx⟩
      · simp only [kmp_next_byte.j1]
        rw [if_pos trivial, wrap_in (by omega) (by omega)]; rfl
      · simp only [kmp_next_byte.l0]
        rw [if_pos (by omega), if_pos (by omega), rd_get hl, hx]; simp
    · have hx : ∀ hl : a < p.length, p[a] ≠ x := fun hl e => hh ⟨hl, e⟩
      have h0 : ∀ k, kmp_next_byte.l0 (k + 1) p back a x = kmp_next_byte.j1 k p back a x false := fun k => by
        simp only [kmp_next_byte.l0]
        by_cases hl : a < p.length
        · rw [if_pos (by omega), if_pos (by omega), rd_get hl]
          have : (p[a] == x) = false := by simpa using hx hl
          rw [this]
        · rw [if_neg (by omega)]
      by_cases ha : a = 0
      · subst ha
        refine ⟨0, Ev.step (h := fun k => kmp_next_byte.j1 k p back 0 x false) (Ev.pure fun k => ?_) h0, hA.none hx⟩
        simp only [kmp_next_byte.j1]
        rw [if_neg (by decide), if_pos trivial]; rfl
      · obtain ⟨b, hb, hbb⟩ := hB a (by omega) (Nat.le_refl _)
        have hlt := border_lt (by omega) hbb
        obtain ⟨r, hr, hR⟩ := ih b hlt (hA.back (by omega) hx hbb) (fun j h1 h2 => hB j h1 (by omega))
        refine ⟨r, Ev.step (h := fun k => kmp_next_byte.j1 k p back a x false) (Ev.step (h := fun k => kmp_next_byte.l0 k p back b x) hr fun k => ?_) h0, hR⟩
        have hbl := (List.getElem?_eq_some_iff.1 hb).1
        simp only [kmp_next_byte.j1]
        rw [if_neg (by decide), if_neg (by omega), wrap_in (by omega) (by omega), if_pos (by omega), if_pos (by omega)]
        rw [show ((a : Int) - 1) = ((a - 1 : Nat) : Int) by omega, rd_some hb]
theorem borders_go {p : List Int} (hm : p.length ≤ 4611686018427387904) : ∀ (e i : Nat) (back : List Int), p.length - i ≤ e → 1 ≤ i → (p.length = 0 ∨ i ≤ p.length) → back.length = p.length → BackOk p back i →
    ∃ r, Ev (fun k => kmp_Borders_byte.l0 k p back i) r ∧ r.length = p.length ∧ BackOk p r p.length := by
  intro e
  induction e with
  | zero =>
    intro i back he h1 hi hb hB
    refine ⟨back, Ev.pure fun k => ?_, hb, fun j hj1 hj2 => hB j hj1 (by omega)⟩
    simp only [kmp_Borders_byte.l0]
    rw [if_neg (by omega)]
  | succ e ih =>
    intro i back he h1 hi hb hB
    by_cases hl : i < p.length
    · obtain ⟨b, hb1, hb2⟩ := hB i h1 (Nat.le_refl _)
      have hblt := border_lt h1 hb2
      have hbl := (List.getElem?_eq_some_iff.1 hb1).1
      have hs : ((p.take i).drop 1).length ≤ i := by simp; omega
      obtain ⟨r, hr, hR⟩ := next_go (p := p.take i) (back := back) (s := (p.take i).drop 1) (x := p[i]) (by simp; omega) b
        (At.start ((best_take (by omega) hs).2 hb2)) (back_take (fun j h1 h2 => hB j h1 (by omega)) (by omega) (by omega))
      rw [drop_snoc hl h1] at hR
      have hR' : IsBest p ((p.take (i + 1)).drop 1) r := (best_take (by omega) (by simp; omega)).1 hR
      obtain ⟨z, hz, hz1, hz2⟩ := ih (i + 1) (back.set i r) (by omega) (by omega) (by omega) (by simp [hb]) (fun j hj1 hj2 => by
        by_cases hji : j = i + 1
        · subst hji
          exact ⟨r, by rw [show i + 1 - 1 = i by omega, List.getElem?_set_self (by omega)], hR'⟩
        · obtain ⟨c, hc1, hc2⟩ := hB j hj1 (by omega)
          exact ⟨c, by rw [List.getElem?_set_ne (by omega)]; exact hc1, hc2⟩)
      refine ⟨z, Ev.step (h := fun k => (kmp_next_byte.f k (p.take i) back b p[i]).bind fun t => kmp_Borders_byte.l0 k p (back.set i t) ((i + 1 : Nat) : Int)) (Ev.bind hr hz) fun k => ?_, hz1, hz2⟩
      simp only [kmp_Borders_byte.l0]
      rw [if_pos (by omega), if_pos (by omega), if_pos (by omega), wrap_in (by omega) (by omega), if_pos (by omega), if_pos (by omega), rd_get hl]
      rw [show ((i : Int) - 1) = ((i - 1 : Nat) : Int) by omega, rd_some hb1, Int.toNat_natCast]
      congr 1
      funext t
      rw [if_pos (by omega), wrap_in (by omega) (by omega)]; rfl
    · refine ⟨back, Ev.pure fun k => ?_, hb, fun j hj1 hj2 => hB j hj1 (by omega)⟩
      simp only [kmp_Borders_byte.l0]
      rw [if_neg (by omega)]
theorem borders_f {p : List Int} (hm : p.length ≤ 35184372088832) : ∃ r, Ev (fun k => kmp_Borders_byte.f k p) r ∧ r.length = p.length ∧ BackOk p r p.length := by
  have key : ∃ r, Ev (fun k => kmp_Borders_byte.l0 k p (List.replicate p.length 0) ((1 : Nat) : Int)) r ∧ r.length = p.length ∧ BackOk p r p.length := by
    by_cases h0 : p.length = 0
    · refine ⟨List.replicate p.length 0, Ev.pure fun k => ?_, by simp, fun j h1 h2 => by omega⟩
      simp only [kmp_Borders_byte.l0]
      rw [if_neg (by omega)]
    · refine borders_go (p := p) (by omega) p.length 1 (List.replicate p.length 0) (by omega) (by omega) (by omega) (by simp) (fun j hj1 hj2 => ?_)
      obtain rfl : j = 1 := by omega
      refine ⟨0, by rw [List.getElem?_replicate, if_pos (by omega)]; rfl, ?_⟩
      rw [List.drop_eq_nil_of_le (by simp; omega)]
      exact best_nil p
  obtain ⟨r, ⟨K, hK⟩, h1, h2⟩ := key
  refine ⟨r, ⟨K, fun k hk => ?_⟩, h1, h2⟩
  simp only [kmp_Borders_byte.f]
  rw [if_pos (by omega), if_pos (by simp; omega)]
  exact hK k hk
end Kmp
end Go.Proofs.Ytojgdmpnbgikeaa
