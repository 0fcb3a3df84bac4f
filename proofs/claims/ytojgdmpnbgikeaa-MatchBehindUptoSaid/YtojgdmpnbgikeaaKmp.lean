/- Contracts of package kmp at bytes: New, Feed. Conditions: as they state. -/
import Derived.Test.YtojgdmpnbgikeaaKmpEv
import Derived.Test.YtojgdmpnbgikeaaLib2
import Derived.ChangeAlike
import Derived.RegionTactic
import Derived.Deep.QuietTactic
import Derived.BigQuiet
import Derived.StillTailTactics
import Derived.Lib.Hide
import Derived.Outline
set_option linter.unusedVariables false
set_option linter.unusedSimpArgs false
namespace Go.Proofs.Ytojgdmpnbgikeaa
open Go.RowKit PMatchFeeds YtojgdmpnbgikeaaW.PrintWords
namespace Kmp
theorem Try.info_u8k : (Try.prog.info? 5).map (fun i => (i.zero, i.size, i.bytes)) = some (some (.int .u8 0), 1, 1) := by kernel_rfl
/-- A row of numbers, as the printed texts read it. -/
theorem kd_ints {k : IntKind} {w : World} {A : Option Addr} {n c : Nat} {xs : List Int} (h : Sl w 1 (.slice A n c) n (cellsOf k xs)) : (Kd.int k).C w A n xs := by
  have hl := h.len
  rw [cellsOf_length, Nat.mul_one] at hl
  obtain ⟨A0, c0, e, h0, h1, h2, h3, h4⟩ := h
  simp only [Value.slice.injEq] at e
  obtain ⟨rfl, -, rfl⟩ := e
  refine ⟨hl, by unfold maxLen at h2; omega, fun hn => ?_⟩
  obtain ⟨ad, rfl, hr⟩ := h4 (by rw [cellsOf_length]; omega)
  refine ⟨ad, rfl, fun j p hj => ⟨[.int k p], rfl, rfl, fun i u hi => ?_⟩⟩
  have hi0 : i = 0 := by have := (List.getElem?_eq_some_iff.1 hi).1; simpa using this
  subst hi0
  simp at hi
  subst hi
  have hjl := (List.getElem?_eq_some_iff.1 hj).1
  have hsz : (Kd.int k).sz = 1 := rfl
  rw [hsz, Nat.mul_one, Nat.add_zero]
  exact hr j _ (by simp [cellsOf, hj])
theorem sl_of_R {w : World} {base : Nat} {ok : Nat → Prop} {v : Value} {xs : List Int} {k : IntKind} {e : Nat} (h : (Kd.int k).R e w base ok v xs) : ∃ A c, v = .slice A xs.length c ∧ xs.length ≤ c ∧ Sl w 1 v xs.length (cellsOf k xs) ∧ (∀ q, v.ownBlock = some q → base ≤ q ∧ q < w.heap.size) := by
  obtain ⟨A, c, hv, hc, -⟩ := Kd.R_reads h
  obtain ⟨-, inner, ho, hr1, hr2⟩ := h
  have hi : inner = cellsOf k xs := by
    have hsz : (Kd.int k).sz = 1 := rfl
    apply List.ext_getElem?
    intro j
    simp only [hsz, Nat.mul_one] at hr1 hr2
    cases hx : xs[j]? with
    | none =>
      have := List.getElem?_eq_none_iff.1 hx
      rw [List.getElem?_eq_none (by omega), List.getElem?_eq_none (by rw [cellsOf_length]; omega)]
    | some x =>
      have hl := (List.getElem?_eq_some_iff.1 hx).1
      have h2 : (inner.drop j).take 1 = [Value.int k x] := hr2 j x hx
      have h3 : ((inner.drop j).take 1)[0]? = some (Value.int k x) := by rw [h2]; rfl
      rw [List.getElem?_take, if_pos (by omega), List.getElem?_drop] at h3
      rw [show j = j + 0 by omega, h3]
      simp [cellsOf, hx]
  rw [hi] at ho
  exact ⟨A, c, hv, hc, own_sl ho, fun q hq => ho.lt q hq⟩
/-- A search at block `g`: its pattern, and how much of it stands at the end; its rows lie from `lo` on, below `hi`. -/
def KS (w : World) (lo hi g : Nat) (p : List Int) (at_ : Nat) : Prop :=
  ∃ A c B c2 back, w.heap[g]? = some (.cells #[.slice A p.length c, .slice B p.length c2, .int .i64 at_] 97 (0, 0)) ∧ Sl w 1 (.slice A p.length c) p.length (cellsOf .u8 p) ∧ Sl w 1 (.slice B p.length c2) p.length (cellsOf .i64 back) ∧
    (∀ q, (Value.slice A p.length c).ownBlock = some q → lo ≤ q ∧ q < hi ∧ q ≠ g) ∧ (∀ q, (Value.slice B p.length c2).ownBlock = some q → lo ≤ q ∧ q < hi ∧ q ≠ g) ∧ lo ≤ g ∧ g < hi ∧ BackOk p back p.length ∧ p.length ≤ 1000000000
theorem nat_beq (a b : Nat) : ((a : Int) == (b : Int)) = decide (a = b) := by
  rw [Bool.eq_iff_iff]; simp; omega
theorem KS.chg {S : List Nat} {w w' : World} {lo hi g : Nat} {p : List Int} {a : Nat} (h : KS w lo hi g p a) (hc : Chg S w w') (hS : ∀ k ∈ S, k < lo ∨ hi ≤ k) : KS w' lo hi g p a := by
  obtain ⟨A, c, B, c2, back, h1, h2, h3, h4, h5, h6, h7, h8⟩ := h
  exact ⟨A, c, B, c2, back, hc.heap h1 (fun hm => by have := hS g hm; omega), h2.chg hc (fun _ q hq hm => by have := hS q hm; have := h4 q hq; omega), h3.chg hc (fun _ q hq hm => by have := hS q hm; have := h5 q hq; omega), h4, h5, h6, h7, h8⟩
theorem next_any {p back s : List Int} {a : Nat} {x : Int} (h : IsBest p s a) (hb : BackOk p back p.length) (hm : p.length ≤ 1000000000) :
    ∃ r : Nat, IsBest p (s ++ [x]) r ∧ ∀ (A B : Option Addr) (c c2 : Nat) (w : World), Sl w 1 (.slice A p.length c) p.length (cellsOf .u8 p) → Sl w 1 (.slice B p.length c2) p.length (cellsOf .i64 back) →
      Calls Try.prog 52 #[.slice A p.length c, .slice B p.length c2, .int .i64 a, .int .u8 x] w fun e w' => e = .returned (.int .i64 r) ∧ ∃ n, w' = w.drewN n := by
  obtain ⟨r, ⟨K, hK⟩, hR⟩ := next_go (p := p) (back := back) (s := s) (x := x) (by omega) a (At.start h) (fun j h1 h2 => hb j h1 (by have := h.1.1; omega))
  refine ⟨r, hR, fun A B c c2 w hA hB => ?_⟩
  have hbl : back.length = p.length := by have := hB.len; rw [cellsOf_length] at this; omega
  have hc1 : p.length ≤ c := by obtain ⟨A0, c0, e, _, h1, _⟩ := hA; simp at e; omega
  have hc2 : p.length ≤ c2 := by obtain ⟨A0, c0, e, _, h1, _⟩ := hB; simp at e; omega
  have hKB := kd_ints hB
  rw [← hbl] at hKB hc2
  have := kmp_next_byte.calls K A c p B c2 back a x r w (kd_ints hA) hc1 hKB hc2 (hK K (Nat.le_refl _))
  rw [hbl] at this
  exact this.mono fun e w' h => ⟨h.1, by obtain ⟨-, q, hq⟩ := h; exact ⟨q, hq⟩⟩
set_option maxRecDepth 100000 in
set_option maxHeartbeats 4000000 in
theorem feed_any (w : World) (lo hi g : Nat) (p s : List Int) (a : Nat) (x : Int) (h : KS w lo hi g p a) (hb : IsBest p s a) :
    ∃ r : Nat, IsBest p (s ++ [x]) r ∧ Calls Try.prog 43 #[.pointer (some ⟨g, 0, none⟩), .int .u8 x] w fun e w' => e = .returned (.bool (decide (r = p.length))) ∧ KS w' lo hi g p r ∧ Chg [g] w w' := by
  obtain ⟨A, c, B, c2, back, h1, h2, h3, h4, h5, h6, h7, h8, h9⟩ := h
  obtain ⟨r, hr, hnx⟩ := next_any (x := x) hb h8 h9
  refine ⟨r, hr, ?_⟩
  have k0 : w.cell? ⟨g, 0, none⟩ = some (.slice A p.length c) := by simp [World.cell?, h1]
  have k1 : w.cell? ⟨g, 1, none⟩ = some (.slice B p.length c2) := by simp [World.cell?, h1]
  have k2 : w.cell? ⟨g, 2, none⟩ = some (.int .i64 a) := by simp [World.cell?, h1]
  have hcall := Lib.hid (fun w' (hc : Chg [] w w') => hnx A B c c2 w' (h2.chg hc (by simp)) (h3.chg hc (by simp)))
  clear hnx
  go_enter Try.func43, Try.ntmps43
  go_wp2_with fail
  have f2 : w.frozen? ⟨g, 2, none⟩ = false := by simp [World.frozen?, h1]
  refine wp_region_any (by kernel_rfl) ?_
  (try (change wpAny _ _ _ _ _ _ _ (World.drew _)))
  refine wpAny_take (i := 0) (v := ?_) rfl (by kernel_rfl) (by kernel_rfl) (by kernel_rfl) (fun _ _ _ h => h) (Or.inl ⟨by kernel_rfl, ?_⟩) ?_
  rotate_left
  · (intro w; go_simp; try with_reducible rfl)
  change wpAny _ _ _ _ _ _ (Act.put _ (some 7) _) _
  (try simp only [Act.put, List.setIfInBounds_toArray, List.set_cons_zero, List.set_cons_succ])
  refine wpAny_take (i := 1) (v := ?_) rfl (by kernel_rfl) (by kernel_rfl) (by kernel_rfl) (fun _ _ _ h => h) (Or.inl ⟨by kernel_rfl, ?_⟩) ?_
  rotate_left
  · (intro w; go_simp; try with_reducible rfl)
  change wpAny _ _ _ _ _ _ (Act.put _ (some 8) _) _
  (try simp only [Act.put, List.setIfInBounds_toArray, List.set_cons_zero, List.set_cons_succ])
  refine wpAny_take (i := 2) (v := ?_) rfl (by kernel_rfl) (by kernel_rfl) (by kernel_rfl) (fun _ _ _ h => h) (Or.inl ⟨by kernel_rfl, ?_⟩) ?_
  rotate_left
  · (intro w; go_simp; try with_reducible rfl)
  change wpAny _ _ _ _ _ _ (Act.put _ (some 9) _) _
  (try simp only [Act.put, List.setIfInBounds_toArray, List.set_cons_zero, List.set_cons_succ])
  refine wpAny_take (i := 3) (v := ?_) rfl (by kernel_rfl) (by kernel_rfl) (by kernel_rfl) (fun _ _ _ h => h) (Or.inl ⟨by kernel_rfl, ?_⟩) ?_
  rotate_left
  · (intro w; go_simp; try with_reducible rfl)
  change wpAny _ _ _ _ _ _ (Act.put _ (some 10) _) _
  (try simp only [Act.put, List.setIfInBounds_toArray, List.set_cons_zero, List.set_cons_succ])
  refine wpAny_take (i := 5) (v := ?_) rfl (by kernel_rfl) (by kernel_rfl) (by kernel_rfl) (fun _ _ _ h => h) (Or.inl ⟨by kernel_rfl, ?_⟩) ?_
  rotate_left
  · (intro w; go_simp; try with_reducible rfl)
  change wpAny _ _ _ _ _ _ (Act.put _ (some 12) _) _
  (try simp only [Act.put, List.setIfInBounds_toArray, List.set_cons_zero, List.set_cons_succ])
  refine wpAny_take (i := 6) (v := ?_) rfl (by kernel_rfl) (by kernel_rfl) (by kernel_rfl) (fun _ _ _ h => h) (Or.inl ⟨by kernel_rfl, ?_⟩) ?_
  rotate_left
  · (intro w; go_simp; try with_reducible rfl)
  change wpAny _ _ _ _ _ _ (Act.put _ (some 13) _) _
  (try simp only [Act.put, List.setIfInBounds_toArray, List.set_cons_zero, List.set_cons_succ])
  refine wpAny_take (i := 7) (v := ?_) rfl (by kernel_rfl) (by kernel_rfl) (by kernel_rfl) (fun _ _ _ h => h) (Or.inl ⟨by kernel_rfl, ?_⟩) ?_
  rotate_left
  · (intro w; go_simp; try with_reducible rfl)
  change wpAny _ _ _ _ _ _ (Act.put _ (some 14) _) _
  (try simp only [Act.put, List.setIfInBounds_toArray, List.set_cons_zero, List.set_cons_succ])
  refine wpAny_take (i := 9) (v := ?_) rfl (by kernel_rfl) (by kernel_rfl) (by kernel_rfl) (fun _ _ _ h => h) (Or.inl ⟨by kernel_rfl, ?_⟩) ?_
  rotate_left
  · (intro w; go_simp; try with_reducible rfl)
  change wpAny _ _ _ _ _ _ (Act.put _ (some 16) _) _
  (try simp only [Act.put, List.setIfInBounds_toArray, List.set_cons_zero, List.set_cons_succ])
  refine wpAny_take (i := 10) (v := ?_) rfl (by kernel_rfl) (by kernel_rfl) (by kernel_rfl) (fun _ _ _ h => h) (Or.inl ⟨by kernel_rfl, ?_⟩) ?_
  rotate_left
  · (intro w; go_simp; try with_reducible rfl)
  change wpAny _ _ _ _ _ _ (Act.put _ (some 17) _) _
  (try simp only [Act.put, List.setIfInBounds_toArray, List.set_cons_zero, List.set_cons_succ])
  refine wpAny_take (i := 11) (v := ?_) rfl (by kernel_rfl) (by kernel_rfl) (by kernel_rfl) (fun _ _ _ h => h) (Or.inl ⟨by kernel_rfl, ?_⟩) ?_
  rotate_left
  · (intro w; go_simp; try with_reducible rfl)
  change wpAny _ _ _ _ _ _ (Act.put _ (some 18) _) _
  (try simp only [Act.put, List.setIfInBounds_toArray, List.set_cons_zero, List.set_cons_succ])
  refine wpAny_take (i := 13) (v := ?_) rfl (by kernel_rfl) (by kernel_rfl) (by kernel_rfl) (fun _ _ _ h => h) (Or.inl ⟨by kernel_rfl, ?_⟩) ?_
  rotate_left
  · (intro w; go_simp; try with_reducible rfl)
  change wpAny _ _ _ _ _ _ (Act.put _ (some 20) _) _
  (try simp only [Act.put, List.setIfInBounds_toArray, List.set_cons_zero, List.set_cons_succ])
  refine wpAny_ready (rs := [4, 8, 12]) (by kernel_rfl) (by simp) ?_
  refine AllReady.cons rfl (fun K hK => ?_) ?_
  · go_simp
    (try (refine hK _ _ ?_; clear hK K))
    (try simp only [Act.put, List.setIfInBounds_toArray, List.set_cons_zero, List.set_cons_succ])
    refine wpAny_ready (rs := [8, 12]) (by kernel_rfl) (by simp) ?_
    refine AllReady.cons rfl (fun K hK => ?_) ?_
    · go_simp
      (try (refine hK _ _ ?_; clear hK K))
      (try simp only [Act.put, List.setIfInBounds_toArray, List.set_cons_zero, List.set_cons_succ])
      refine wpAny_ready (rs := [12]) (by kernel_rfl) (by simp) ?_
      refine AllReady.cons rfl (fun K hK => ?_) ?_
      · go_simp
        (try (refine hK _ _ ?_; clear hK K))
        (try simp only [Act.put, List.setIfInBounds_toArray, List.set_cons_zero, List.set_cons_succ])
        refine wpAny_ready (rs := [14]) (by kernel_rfl) (by simp) ?_
        refine AllReady.cons rfl (fun K hK => ?_) ?_
        · go_simp
          go_wp2_with (first
              | (refine (hcall.out _ (by exact (Chg.refl _ _).drew)).mono ?_; rintro e w3 ⟨rfl, nq, rfl⟩))
          (try (refine hK _ _ ?_; clear hK K))
          (try simp only [Act.put, List.setIfInBounds_toArray, List.set_cons_zero, List.set_cons_succ])
          refine wpAny_take (i := 15) (v := ?_) rfl (by kernel_rfl) (by kernel_rfl) (by kernel_rfl) (fun _ _ _ h => h) (Or.inl ⟨by kernel_rfl, ?_⟩) ?_
          rotate_left
          · (intro w; go_simp; try with_reducible rfl)
          change wpAny _ _ _ _ _ _ (Act.put _ (some 22) _) _
          (try simp only [Act.put, List.setIfInBounds_toArray, List.set_cons_zero, List.set_cons_succ])
          refine wpAny_take (i := 16) (v := ?_) rfl (by kernel_rfl) (by kernel_rfl) (by kernel_rfl) (fun _ _ _ h => h) (Or.inl ⟨by kernel_rfl, ?_⟩) ?_
          rotate_left
          · (intro w; go_simp; try with_reducible rfl)
          change wpAny _ _ _ _ _ _ (Act.put _ (some 23) _) _
          (try simp only [Act.put, List.setIfInBounds_toArray, List.set_cons_zero, List.set_cons_succ])
          refine wpAny_ready (rs := [17]) (by kernel_rfl) (by simp) ?_
          refine AllReady.cons rfl (fun K hK => ?_) ?_
          · go_simp
            (try (refine hK _ _ ?_; clear hK K))
            (try simp only [Act.put, List.setIfInBounds_toArray, List.set_cons_zero, List.set_cons_succ])
            refine wpAny_done (by kernel_rfl) ?_ _
            (try simp only [Act.put, List.setIfInBounds_toArray, List.set_cons_zero, List.set_cons_succ])
            have H1 := blk_set (blk_drewN h1 (1 + nq)) 2 (.int .i64 (r : Int))
            have hC : Chg [g] w ((w.drewN (1 + nq)).setCell ⟨g, 2, none⟩ (.int .i64 (r : Int))) := ((Chg.refl [g] w).drewN _).setCell (.inl (by simp)) _
            generalize (w.drewN (1 + nq)).setCell ⟨g, 2, none⟩ (.int .i64 (r : Int)) = w5 at H1 hC ⊢
            have j0 : w5.cell? ⟨g, 0, none⟩ = some (.slice A p.length c) := by simp [World.cell?, H1]
            have j2 : w5.cell? ⟨g, 2, none⟩ = some (.int .i64 r) := by simp [World.cell?, H1]
            have hks : Hid (KS w5 lo hi g p r) := ⟨A, c, B, c2, back, H1, h2.chg hC (fun _ q hq hm => by have := h4 q hq; simp at hm; omega), h3.chg hC (fun _ q hq hm => by have := h5 q hq; simp at hm; omega), h4, h5, h6, h7, h8, h9⟩
            replace hC := Lib.hid hC
            clear H1 h1 h2 h3 hcall k0 k1 k2 f2
            go_wp2_with fail
            go_quiet (fail)
            go_wp2_with fail
            go_ret
            exact ⟨by rw [nat_beq]; rfl, hks.out.chg (S := []) ((Chg.refl [] _).drewN _) (by simp), hC.out.drewN _⟩
          exact AllReady.nil
        exact AllReady.nil
      exact AllReady.nil
    refine AllReady.cons rfl (fun K hK => ?_) ?_
    · go_simp
      (try (refine hK _ _ ?_; clear hK K))
      (try simp only [Act.put, List.setIfInBounds_toArray, List.set_cons_zero, List.set_cons_succ])
      refine wpAny_ready (rs := [8]) (by kernel_rfl) (by simp) ?_
      refine AllReady.cons rfl (fun K hK => ?_) ?_
      · go_simp
        (try (refine hK _ _ ?_; clear hK K))
        (try simp only [Act.put, List.setIfInBounds_toArray, List.set_cons_zero, List.set_cons_succ])
        refine wpAny_ready (rs := [14]) (by kernel_rfl) (by simp) ?_
        refine AllReady.cons rfl (fun K hK => ?_) ?_
        · go_simp
          go_wp2_with (first
              | (refine (hcall.out _ (by exact (Chg.refl _ _).drew)).mono ?_; rintro e w3 ⟨rfl, nq, rfl⟩))
          (try (refine hK _ _ ?_; clear hK K))
          (try simp only [Act.put, List.setIfInBounds_toArray, List.set_cons_zero, List.set_cons_succ])
          refine wpAny_take (i := 15) (v := ?_) rfl (by kernel_rfl) (by kernel_rfl) (by kernel_rfl) (fun _ _ _ h => h) (Or.inl ⟨by kernel_rfl, ?_⟩) ?_
          rotate_left
          · (intro w; go_simp; try with_reducible rfl)
          change wpAny _ _ _ _ _ _ (Act.put _ (some 22) _) _
          (try simp only [Act.put, List.setIfInBounds_toArray, List.set_cons_zero, List.set_cons_succ])
          refine wpAny_take (i := 16) (v := ?_) rfl (by kernel_rfl) (by kernel_rfl) (by kernel_rfl) (fun _ _ _ h => h) (Or.inl ⟨by kernel_rfl, ?_⟩) ?_
          rotate_left
          · (intro w; go_simp; try with_reducible rfl)
          change wpAny _ _ _ _ _ _ (Act.put _ (some 23) _) _
          (try simp only [Act.put, List.setIfInBounds_toArray, List.set_cons_zero, List.set_cons_succ])
          refine wpAny_ready (rs := [17]) (by kernel_rfl) (by simp) ?_
          refine AllReady.cons rfl (fun K hK => ?_) ?_
          · go_simp
            (try (refine hK _ _ ?_; clear hK K))
            (try simp only [Act.put, List.setIfInBounds_toArray, List.set_cons_zero, List.set_cons_succ])
            refine wpAny_done (by kernel_rfl) ?_ _
            (try simp only [Act.put, List.setIfInBounds_toArray, List.set_cons_zero, List.set_cons_succ])
            have H1 := blk_set (blk_drewN h1 (1 + nq)) 2 (.int .i64 (r : Int))
            have hC : Chg [g] w ((w.drewN (1 + nq)).setCell ⟨g, 2, none⟩ (.int .i64 (r : Int))) := ((Chg.refl [g] w).drewN _).setCell (.inl (by simp)) _
            generalize (w.drewN (1 + nq)).setCell ⟨g, 2, none⟩ (.int .i64 (r : Int)) = w5 at H1 hC ⊢
            have j0 : w5.cell? ⟨g, 0, none⟩ = some (.slice A p.length c) := by simp [World.cell?, H1]
            have j2 : w5.cell? ⟨g, 2, none⟩ = some (.int .i64 r) := by simp [World.cell?, H1]
            have hks : Hid (KS w5 lo hi g p r) := ⟨A, c, B, c2, back, H1, h2.chg hC (fun _ q hq hm => by have := h4 q hq; simp at hm; omega), h3.chg hC (fun _ q hq hm => by have := h5 q hq; simp at hm; omega), h4, h5, h6, h7, h8, h9⟩
            replace hC := Lib.hid hC
            clear H1 h1 h2 h3 hcall k0 k1 k2 f2
            go_wp2_with fail
            go_quiet (fail)
            go_wp2_with fail
            go_ret
            exact ⟨by rw [nat_beq]; rfl, hks.out.chg (S := []) ((Chg.refl [] _).drewN _) (by simp), hC.out.drewN _⟩
          exact AllReady.nil
        exact AllReady.nil
      exact AllReady.nil
    exact AllReady.nil
  refine AllReady.cons rfl (fun K hK => ?_) ?_
  · go_simp
    (try (refine hK _ _ ?_; clear hK K))
    (try simp only [Act.put, List.setIfInBounds_toArray, List.set_cons_zero, List.set_cons_succ])
    refine wpAny_ready (rs := [4, 12]) (by kernel_rfl) (by simp) ?_
    refine AllReady.cons rfl (fun K hK => ?_) ?_
    · go_simp
      (try (refine hK _ _ ?_; clear hK K))
      (try simp only [Act.put, List.setIfInBounds_toArray, List.set_cons_zero, List.set_cons_succ])
      refine wpAny_ready (rs := [12]) (by kernel_rfl) (by simp) ?_
      refine AllReady.cons rfl (fun K hK => ?_) ?_
      · go_simp
        (try (refine hK _ _ ?_; clear hK K))
        (try simp only [Act.put, List.setIfInBounds_toArray, List.set_cons_zero, List.set_cons_succ])
        refine wpAny_ready (rs := [14]) (by kernel_rfl) (by simp) ?_
        refine AllReady.cons rfl (fun K hK => ?_) ?_
        · go_simp
          go_wp2_with (first
              | (refine (hcall.out _ (by exact (Chg.refl _ _).drew)).mono ?_; rintro e w3 ⟨rfl, nq, rfl⟩))
          (try (refine hK _ _ ?_; clear hK K))
          (try simp only [Act.put, List.setIfInBounds_toArray, List.set_cons_zero, List.set_cons_succ])
          refine wpAny_take (i := 15) (v := ?_) rfl (by kernel_rfl) (by kernel_rfl) (by kernel_rfl) (fun _ _ _ h => h) (Or.inl ⟨by kernel_rfl, ?_⟩) ?_
          rotate_left
          · (intro w; go_simp; try with_reducible rfl)
          change wpAny _ _ _ _ _ _ (Act.put _ (some 22) _) _
          (try simp only [Act.put, List.setIfInBounds_toArray, List.set_cons_zero, List.set_cons_succ])
          refine wpAny_take (i := 16) (v := ?_) rfl (by kernel_rfl) (by kernel_rfl) (by kernel_rfl) (fun _ _ _ h => h) (Or.inl ⟨by kernel_rfl, ?_⟩) ?_
          rotate_left
          · (intro w; go_simp; try with_reducible rfl)
          change wpAny _ _ _ _ _ _ (Act.put _ (some 23) _) _
          (try simp only [Act.put, List.setIfInBounds_toArray, List.set_cons_zero, List.set_cons_succ])
          refine wpAny_ready (rs := [17]) (by kernel_rfl) (by simp) ?_
          refine AllReady.cons rfl (fun K hK => ?_) ?_
          · go_simp
            (try (refine hK _ _ ?_; clear hK K))
            (try simp only [Act.put, List.setIfInBounds_toArray, List.set_cons_zero, List.set_cons_succ])
            refine wpAny_done (by kernel_rfl) ?_ _
            (try simp only [Act.put, List.setIfInBounds_toArray, List.set_cons_zero, List.set_cons_succ])
            have H1 := blk_set (blk_drewN h1 (1 + nq)) 2 (.int .i64 (r : Int))
            have hC : Chg [g] w ((w.drewN (1 + nq)).setCell ⟨g, 2, none⟩ (.int .i64 (r : Int))) := ((Chg.refl [g] w).drewN _).setCell (.inl (by simp)) _
            generalize (w.drewN (1 + nq)).setCell ⟨g, 2, none⟩ (.int .i64 (r : Int)) = w5 at H1 hC ⊢
            have j0 : w5.cell? ⟨g, 0, none⟩ = some (.slice A p.length c) := by simp [World.cell?, H1]
            have j2 : w5.cell? ⟨g, 2, none⟩ = some (.int .i64 r) := by simp [World.cell?, H1]
            have hks : Hid (KS w5 lo hi g p r) := ⟨A, c, B, c2, back, H1, h2.chg hC (fun _ q hq hm => by have := h4 q hq; simp at hm; omega), h3.chg hC (fun _ q hq hm => by have := h5 q hq; simp at hm; omega), h4, h5, h6, h7, h8, h9⟩
            replace hC := Lib.hid hC
            clear H1 h1 h2 h3 hcall k0 k1 k2 f2
            go_wp2_with fail
            go_quiet (fail)
            go_wp2_with fail
            go_ret
            exact ⟨by rw [nat_beq]; rfl, hks.out.chg (S := []) ((Chg.refl [] _).drewN _) (by simp), hC.out.drewN _⟩
          exact AllReady.nil
        exact AllReady.nil
      exact AllReady.nil
    refine AllReady.cons rfl (fun K hK => ?_) ?_
    · go_simp
      (try (refine hK _ _ ?_; clear hK K))
      (try simp only [Act.put, List.setIfInBounds_toArray, List.set_cons_zero, List.set_cons_succ])
      refine wpAny_ready (rs := [4]) (by kernel_rfl) (by simp) ?_
      refine AllReady.cons rfl (fun K hK => ?_) ?_
      · go_simp
        (try (refine hK _ _ ?_; clear hK K))
        (try simp only [Act.put, List.setIfInBounds_toArray, List.set_cons_zero, List.set_cons_succ])
        refine wpAny_ready (rs := [14]) (by kernel_rfl) (by simp) ?_
        refine AllReady.cons rfl (fun K hK => ?_) ?_
        · go_simp
          go_wp2_with (first
              | (refine (hcall.out _ (by exact (Chg.refl _ _).drew)).mono ?_; rintro e w3 ⟨rfl, nq, rfl⟩))
          (try (refine hK _ _ ?_; clear hK K))
          (try simp only [Act.put, List.setIfInBounds_toArray, List.set_cons_zero, List.set_cons_succ])
          refine wpAny_take (i := 15) (v := ?_) rfl (by kernel_rfl) (by kernel_rfl) (by kernel_rfl) (fun _ _ _ h => h) (Or.inl ⟨by kernel_rfl, ?_⟩) ?_
          rotate_left
          · (intro w; go_simp; try with_reducible rfl)
          change wpAny _ _ _ _ _ _ (Act.put _ (some 22) _) _
          (try simp only [Act.put, List.setIfInBounds_toArray, List.set_cons_zero, List.set_cons_succ])
          refine wpAny_take (i := 16) (v := ?_) rfl (by kernel_rfl) (by kernel_rfl) (by kernel_rfl) (fun _ _ _ h => h) (Or.inl ⟨by kernel_rfl, ?_⟩) ?_
          rotate_left
          · (intro w; go_simp; try with_reducible rfl)
          change wpAny _ _ _ _ _ _ (Act.put _ (some 23) _) _
          (try simp only [Act.put, List.setIfInBounds_toArray, List.set_cons_zero, List.set_cons_succ])
          refine wpAny_ready (rs := [17]) (by kernel_rfl) (by simp) ?_
          refine AllReady.cons rfl (fun K hK => ?_) ?_
          · go_simp
            (try (refine hK _ _ ?_; clear hK K))
            (try simp only [Act.put, List.setIfInBounds_toArray, List.set_cons_zero, List.set_cons_succ])
            refine wpAny_done (by kernel_rfl) ?_ _
            (try simp only [Act.put, List.setIfInBounds_toArray, List.set_cons_zero, List.set_cons_succ])
            have H1 := blk_set (blk_drewN h1 (1 + nq)) 2 (.int .i64 (r : Int))
            have hC : Chg [g] w ((w.drewN (1 + nq)).setCell ⟨g, 2, none⟩ (.int .i64 (r : Int))) := ((Chg.refl [g] w).drewN _).setCell (.inl (by simp)) _
            generalize (w.drewN (1 + nq)).setCell ⟨g, 2, none⟩ (.int .i64 (r : Int)) = w5 at H1 hC ⊢
            have j0 : w5.cell? ⟨g, 0, none⟩ = some (.slice A p.length c) := by simp [World.cell?, H1]
            have j2 : w5.cell? ⟨g, 2, none⟩ = some (.int .i64 r) := by simp [World.cell?, H1]
            have hks : Hid (KS w5 lo hi g p r) := ⟨A, c, B, c2, back, H1, h2.chg hC (fun _ q hq hm => by have := h4 q hq; simp at hm; omega), h3.chg hC (fun _ q hq hm => by have := h5 q hq; simp at hm; omega), h4, h5, h6, h7, h8, h9⟩
            replace hC := Lib.hid hC
            clear H1 h1 h2 h3 hcall k0 k1 k2 f2
            go_wp2_with fail
            go_quiet (fail)
            go_wp2_with fail
            go_ret
            exact ⟨by rw [nat_beq]; rfl, hks.out.chg (S := []) ((Chg.refl [] _).drewN _) (by simp), hC.out.drewN _⟩
          exact AllReady.nil
        exact AllReady.nil
      exact AllReady.nil
    exact AllReady.nil
  refine AllReady.cons rfl (fun K hK => ?_) ?_
  · go_simp
    (try (refine hK _ _ ?_; clear hK K))
    (try simp only [Act.put, List.setIfInBounds_toArray, List.set_cons_zero, List.set_cons_succ])
    refine wpAny_ready (rs := [4, 8]) (by kernel_rfl) (by simp) ?_
    refine AllReady.cons rfl (fun K hK => ?_) ?_
    · go_simp
      (try (refine hK _ _ ?_; clear hK K))
      (try simp only [Act.put, List.setIfInBounds_toArray, List.set_cons_zero, List.set_cons_succ])
      refine wpAny_ready (rs := [8]) (by kernel_rfl) (by simp) ?_
      refine AllReady.cons rfl (fun K hK => ?_) ?_
      · go_simp
        (try (refine hK _ _ ?_; clear hK K))
        (try simp only [Act.put, List.setIfInBounds_toArray, List.set_cons_zero, List.set_cons_succ])
        refine wpAny_ready (rs := [14]) (by kernel_rfl) (by simp) ?_
        refine AllReady.cons rfl (fun K hK => ?_) ?_
        · go_simp
          go_wp2_with (first
              | (refine (hcall.out _ (by exact (Chg.refl _ _).drew)).mono ?_; rintro e w3 ⟨rfl, nq, rfl⟩))
          (try (refine hK _ _ ?_; clear hK K))
          (try simp only [Act.put, List.setIfInBounds_toArray, List.set_cons_zero, List.set_cons_succ])
          refine wpAny_take (i := 15) (v := ?_) rfl (by kernel_rfl) (by kernel_rfl) (by kernel_rfl) (fun _ _ _ h => h) (Or.inl ⟨by kernel_rfl, ?_⟩) ?_
          rotate_left
          · (intro w; go_simp; try with_reducible rfl)
          change wpAny _ _ _ _ _ _ (Act.put _ (some 22) _) _
          (try simp only [Act.put, List.setIfInBounds_toArray, List.set_cons_zero, List.set_cons_succ])
          refine wpAny_take (i := 16) (v := ?_) rfl (by kernel_rfl) (by kernel_rfl) (by kernel_rfl) (fun _ _ _ h => h) (Or.inl ⟨by kernel_rfl, ?_⟩) ?_
          rotate_left
          · (intro w; go_simp; try with_reducible rfl)
          change wpAny _ _ _ _ _ _ (Act.put _ (some 23) _) _
          (try simp only [Act.put, List.setIfInBounds_toArray, List.set_cons_zero, List.set_cons_succ])
          refine wpAny_ready (rs := [17]) (by kernel_rfl) (by simp) ?_
          refine AllReady.cons rfl (fun K hK => ?_) ?_
          · go_simp
            (try (refine hK _ _ ?_; clear hK K))
            (try simp only [Act.put, List.setIfInBounds_toArray, List.set_cons_zero, List.set_cons_succ])
            refine wpAny_done (by kernel_rfl) ?_ _
            (try simp only [Act.put, List.setIfInBounds_toArray, List.set_cons_zero, List.set_cons_succ])
            have H1 := blk_set (blk_drewN h1 (1 + nq)) 2 (.int .i64 (r : Int))
            have hC : Chg [g] w ((w.drewN (1 + nq)).setCell ⟨g, 2, none⟩ (.int .i64 (r : Int))) := ((Chg.refl [g] w).drewN _).setCell (.inl (by simp)) _
            generalize (w.drewN (1 + nq)).setCell ⟨g, 2, none⟩ (.int .i64 (r : Int)) = w5 at H1 hC ⊢
            have j0 : w5.cell? ⟨g, 0, none⟩ = some (.slice A p.length c) := by simp [World.cell?, H1]
            have j2 : w5.cell? ⟨g, 2, none⟩ = some (.int .i64 r) := by simp [World.cell?, H1]
            have hks : Hid (KS w5 lo hi g p r) := ⟨A, c, B, c2, back, H1, h2.chg hC (fun _ q hq hm => by have := h4 q hq; simp at hm; omega), h3.chg hC (fun _ q hq hm => by have := h5 q hq; simp at hm; omega), h4, h5, h6, h7, h8, h9⟩
            replace hC := Lib.hid hC
            clear H1 h1 h2 h3 hcall k0 k1 k2 f2
            go_wp2_with fail
            go_quiet (fail)
            go_wp2_with fail
            go_ret
            exact ⟨by rw [nat_beq]; rfl, hks.out.chg (S := []) ((Chg.refl [] _).drewN _) (by simp), hC.out.drewN _⟩
          exact AllReady.nil
        exact AllReady.nil
      exact AllReady.nil
    refine AllReady.cons rfl (fun K hK => ?_) ?_
    · go_simp
      (try (refine hK _ _ ?_; clear hK K))
      (try simp only [Act.put, List.setIfInBounds_toArray, List.set_cons_zero, List.set_cons_succ])
      refine wpAny_ready (rs := [4]) (by kernel_rfl) (by simp) ?_
      refine AllReady.cons rfl (fun K hK => ?_) ?_
      · go_simp
        (try (refine hK _ _ ?_; clear hK K))
        (try simp only [Act.put, List.setIfInBounds_toArray, List.set_cons_zero, List.set_cons_succ])
        refine wpAny_ready (rs := [14]) (by kernel_rfl) (by simp) ?_
        refine AllReady.cons rfl (fun K hK => ?_) ?_
        · go_simp
          go_wp2_with (first
              | (refine (hcall.out _ (by exact (Chg.refl _ _).drew)).mono ?_; rintro e w3 ⟨rfl, nq, rfl⟩))
          (try (refine hK _ _ ?_; clear hK K))
          (try simp only [Act.put, List.setIfInBounds_toArray, List.set_cons_zero, List.set_cons_succ])
          refine wpAny_take (i := 15) (v := ?_) rfl (by kernel_rfl) (by kernel_rfl) (by kernel_rfl) (fun _ _ _ h => h) (Or.inl ⟨by kernel_rfl, ?_⟩) ?_
          rotate_left
          · (intro w; go_simp; try with_reducible rfl)
          change wpAny _ _ _ _ _ _ (Act.put _ (some 22) _) _
          (try simp only [Act.put, List.setIfInBounds_toArray, List.set_cons_zero, List.set_cons_succ])
          refine wpAny_take (i := 16) (v := ?_) rfl (by kernel_rfl) (by kernel_rfl) (by kernel_rfl) (fun _ _ _ h => h) (Or.inl ⟨by kernel_rfl, ?_⟩) ?_
          rotate_left
          · (intro w; go_simp; try with_reducible rfl)
          change wpAny _ _ _ _ _ _ (Act.put _ (some 23) _) _
          (try simp only [Act.put, List.setIfInBounds_toArray, List.set_cons_zero, List.set_cons_succ])
          refine wpAny_ready (rs := [17]) (by kernel_rfl) (by simp) ?_
          refine AllReady.cons rfl (fun K hK => ?_) ?_
          · go_simp
            (try (refine hK _ _ ?_; clear hK K))
            (try simp only [Act.put, List.setIfInBounds_toArray, List.set_cons_zero, List.set_cons_succ])
            refine wpAny_done (by kernel_rfl) ?_ _
            (try simp only [Act.put, List.setIfInBounds_toArray, List.set_cons_zero, List.set_cons_succ])
            have H1 := blk_set (blk_drewN h1 (1 + nq)) 2 (.int .i64 (r : Int))
            have hC : Chg [g] w ((w.drewN (1 + nq)).setCell ⟨g, 2, none⟩ (.int .i64 (r : Int))) := ((Chg.refl [g] w).drewN _).setCell (.inl (by simp)) _
            generalize (w.drewN (1 + nq)).setCell ⟨g, 2, none⟩ (.int .i64 (r : Int)) = w5 at H1 hC ⊢
            have j0 : w5.cell? ⟨g, 0, none⟩ = some (.slice A p.length c) := by simp [World.cell?, H1]
            have j2 : w5.cell? ⟨g, 2, none⟩ = some (.int .i64 r) := by simp [World.cell?, H1]
            have hks : Hid (KS w5 lo hi g p r) := ⟨A, c, B, c2, back, H1, h2.chg hC (fun _ q hq hm => by have := h4 q hq; simp at hm; omega), h3.chg hC (fun _ q hq hm => by have := h5 q hq; simp at hm; omega), h4, h5, h6, h7, h8, h9⟩
            replace hC := Lib.hid hC
            clear H1 h1 h2 h3 hcall k0 k1 k2 f2
            go_wp2_with fail
            go_quiet (fail)
            go_wp2_with fail
            go_ret
            exact ⟨by rw [nat_beq]; rfl, hks.out.chg (S := []) ((Chg.refl [] _).drewN _) (by simp), hC.out.drewN _⟩
          exact AllReady.nil
        exact AllReady.nil
      exact AllReady.nil
    exact AllReady.nil
  exact AllReady.nil
set_option maxRecDepth 100000 in
set_option maxHeartbeats 1000000 in
theorem new_any (w : World) (A : Option Addr) (n c : Nat) (p : List Int) (h : Sl w 1 (.slice A n c) n (cellsOf .u8 p)) (hn : p.length = n) (hm : n ≤ 1000000000) :
    Calls Try.prog 41 #[.slice A n c] w fun e w' => ∃ g, e = .returned (.pointer (some ⟨g, 0, none⟩)) ∧ KS w' w.heap.size w'.heap.size g p 0 ∧ Chg [] w w' := by
  subst hn
  obtain ⟨r, ⟨K, hK⟩, hrl, hrb⟩ := borders_f (p := p) (by omega)
  replace hK := Lib.hid hK
  have hown : (w.alloc (.cells #[] 5)).ownsRow w.heap.size 5 1 (.slice (some ⟨w.heap.size, 0, none⟩) 0 0) 0 [] := World.ownsRow_made w #[] 0 (Nat.le_refl _) (by simp) (by simp)
  have hS1 := h.chg ((Chg.refl [] w).alloc (.cells #[] 5)) (by simp)
  go_enter Try.func41, Try.ntmps41
  go_wp2_with (refine wpList_append_sl rfl (.tmp 4) (.tmp 5) 22 rfl w.heap.size 5 (.int .u8 0) 1 1 Try.underlying22 Try.info_u8k rfl (by decide) _ 0 [] rfl hown _ p.length (cellsOf .u8 p) rfl hS1 cellsOf_one p.length (by omega) (by omega) (by decide) (by simp) ?_)
  intro A' c' w1 hO hC hat
  replace hO : w1.ownsRow w.heap.size 5 1 (.slice A' p.length c') p.length (cellsOf .u8 p) := by simpa using hO
  have hC1 : Chg [] w w1 := ((Chg.refl [] w).alloc (.cells #[] 5)).then hC (fun x hx => by right; simp [Value.ownBlock] at hx; omega)
  have hSl := own_sl hO
  have hlt := hO.lt
  replace hC1 := Lib.hid hC1
  replace hlt := Lib.hid hlt
  have hsz := Lib.hid hC.size
  have hA1 := hSl
  obtain ⟨A0, c0, e0, _, hc0, _⟩ := hA1
  obtain ⟨rfl, rfl⟩ : A' = A0 ∧ c' = c0 := by simpa using e0
  have hcall := fun W => kmp_Borders_byte.calls K A' c' p r W
  replace hcall := Lib.hid hcall
  replace hSl := Lib.hid hSl
  clear hO hC hat hown hS1 h e0
  go_wp2_with fail
  refine (hcall.out _ (kd_ints hSl.out) hc0 (hK.out K (Nat.le_refl _))).mono ?_
  rintro e w2 ⟨v0, rfl, hR, hB⟩
  obtain ⟨B, c2, rfl, hc2, hSB, hltB⟩ := sl_of_R hR
  have hC2 : Chg [] w1 w2 := Chg.of_below hB
  have hSl2 := hSl.out.chg hC2 (by simp)
  rw [hrl] at hSB hltB
  rw [hrl]
  have s1 := hC1.out.size
  have s2 := hC2.size
  replace hC2 := Lib.hid hC2
  replace hSl2 := Lib.hid hSl2
  replace hSB := Lib.hid hSB
  replace hltB := Lib.hid hltB
  clear hR hB hcall hSl
  go_wp2_with fail
  go_ret
  refine ⟨_, rfl, ⟨A', c', B, c2, r, blk_new _ _, hSl2.out.chg ((Chg.refl [] w2).alloc _) (by simp), hSB.out.chg ((Chg.refl [] w2).alloc _) (by simp), fun q hq => ?_, fun q hq => ?_, by omega, by simp, hrb, by omega⟩, (hC1.out.trans hC2.out).alloc _⟩
  · have := hlt.out q hq
    simp; omega
  · have := hltB.out q hq
    simp; omega
end Kmp
end Go.Proofs.Ytojgdmpnbgikeaa
