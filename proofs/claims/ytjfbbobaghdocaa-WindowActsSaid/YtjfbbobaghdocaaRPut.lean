/- Contract of the reference's window: Put. Conditions: as it states. -/
import Derived.Test.YtjfbbobaghdocaaRWin
import Derived.Deep.LoopGhost
import Derived.Deep.RegionHeld3
set_option linter.unusedVariables false
set_option linter.unusedSimpArgs false
namespace Go.Proofs.Ytjfbbobaghdocaa
open Go.RowKit
/-- `append` onto an owned row, as a run equation. -/
theorem run_append_sl {P : Program} {w : World} (t ty : TypeId)
    (base : Nat) (e : TypeId) (z : Value) (size bytes : Nat) (ht : P.underlying t = some (.slice e)) (hi : (P.info? e).map (fun i => (i.zero, i.size, i.bytes)) = some (some z, size, bytes))
    (hzs : z.cells.size = size) (hsz : 0 < size) (v : Value) (n : Nat) (xs : List Value) (hown : w.ownsRow base e size v n xs)
    (vx : Value) (m : Nat) (news : List Value) (hsl : Sl w size vx m news) (h1 : ∀ u ∈ news, u.oneCell' = true)
    (nn : Nat) (hnn : nn = n + m) (hbytes : nn * bytes ≤ 140737488355328) (hby : 0 < bytes) (hbase : base ≤ w.heap.size) :
    ∃ A' c' w', (Builtin.append_ #[t, t] ty #[v, vx]).run P w = .ok (.slice A' nn c') w' ∧ w'.ownsRow base e size (.slice A' nn c') nn (xs ++ news) ∧ Chg v.ownBlock.toList w w' ∧
      ((Value.slice A' nn c').ownBlock = v.ownBlock ∨ ∀ q, (Value.slice A' nn c').ownBlock = some q → w.heap.size ≤ q) := by
  obtain ⟨i0, hi0, hz0, hz1, hz2⟩ := info_parts hi
  subst hnn
  cases hb : vx.ownBlock with
  | none =>
    obtain ⟨rfl, rfl, rfl⟩ := hsl.nil_of hb
    obtain ⟨A, c, rfl⟩ := own_form hown
    exact ⟨A, c, w, run_append_owned_none (P := P) (w := w) base t ty e i0 size ht hi0 _ n xs hown, by simpa using hown, Chg.refl _ _, .inl rfl⟩
  | some k =>
    obtain ⟨A, c, rfl, _, _, _, hl, hr⟩ := id hsl
    cases A with
    | none => simp [Value.ownBlock] at hb
    | some ad =>
      have hnews : ∀ j u, news[j]? = some u → w.cell? (ad.add j) = some u := by
        intro j u hu
        obtain ⟨ad', e, hr⟩ := hr (by have := (List.getElem?_eq_some_iff.1 hu).1; omega)
        simp only [Option.some.injEq] at e; subst e
        exact hr j u hu
      have hm : (n + m) * 1 ≤ (n + m) * bytes := Nat.mul_le_mul_left _ hby
      obtain ⟨v', w', hrun, hown', hg, _, hat⟩ := run_append_own_at (P := P) w base t ty e i0 z size bytes ht hi0 hz0 hz1 hz2 hzs hsz v n xs hown ad m c news hl hnews h1 (by unfold maxLen; omega) hbytes hbase
      obtain ⟨A', c', rfl⟩ := own_form hown'
      refine ⟨A', c', w', hrun, hown', Chg.of_grown hg, ?_⟩
      rcases hat with hat | hat
      · exact .inl hat
      · right; intro q hq; rw [hat] at hq; simp at hq; omega
/-- `append` onto an owned row, as one step of a region that draws its order. -/
theorem step_append_sl {P : Program} {ops : Array Oper} {o : Oper} {a : Act} {w : World} {K : Act → World → Prop} {Q : Exit → Act → World → Prop} {E : Prop} (hgd : o.guard = none) (s x : Operand) (t : TypeId)
    (ho : o.op = .call { callee := .builtin .append, args := #[s, x], argTypes := #[t, t] })
    (base : Nat) (e : TypeId) (z : Value) (size bytes : Nat) (ht : P.underlying t = some (.slice e)) (hi : (P.info? e).map (fun i => (i.zero, i.size, i.bytes)) = some (some z, size, bytes))
    (hzs : z.cells.size = size) (hsz : 0 < size)
    (v : Value) (n : Nat) (xs : List Value) (hown : w.ownsRow base e size v n xs) (hs : a.eval s = v)
    (vx : Value) (m : Nat) (news : List Value) (hsl : Sl w size vx m news) (hx : a.eval x = vx) (h1 : ∀ u ∈ news, u.oneCell' = true)
    (nn : Nat) (hnn : nn = n + m) (hbytes : nn * bytes ≤ 140737488355328) (hby : 0 < bytes) (hbase : base ≤ w.heap.size)
    (h : ∀ A' c' w', w'.ownsRow base e size (.slice A' nn c') nn (xs ++ news) → Chg v.ownBlock.toList w w' →
      ((Value.slice A' nn c').ownBlock = v.ownBlock ∨ ∀ q, (Value.slice A' nn c').ownBlock = some q → w.heap.size ≤ q) → K (a.put o.dst (.slice A' nn c')) w') :
    if Region.wanted o (yielded ops a.tmps) = true then Oper.wp P o a w K Q else E := by
  have hw : Region.wanted o (yielded ops a.tmps) = true := by simp [Region.wanted, hgd]
  rw [if_pos hw]
  obtain ⟨A', c', w', hrun, h2, h3, h4⟩ := run_append_sl (P := P) (w := w) t o.type base e z size bytes ht hi hzs hsz v n xs hown vx m news hsl h1 nn hnn hbytes hby hbase
  unfold Oper.wp execOp
  simp only [ho, resolve, invoke, builtin, Sem.run_bind, Sem.run_pure, Result.andThen_ok, List.map_toArray, List.map_cons, List.map_nil, hs, hx, hrun]
  exact h A' c' w' h2 h3 h4
theorem own_of_eq {w w1 : World} {e : TypeId} (hW : w.alloc (.cells #[] e) = w1) {b : Nat} (hb : b ≤ w.heap.size) : w1.ownsRow b e 1 (.slice (some ⟨w.heap.size, 0, none⟩) 0 0) 0 [] := by
  rw [← hW]; exact World.ownsRow_made w #[] 0 hb (by simp) (by simp)
theorem sl_of_eq {w w1 : World} {e : TypeId} {x : Int} (hW : w.alloc (.cells #[.int .u8 x] e) = w1) : Sl w1 1 (.slice (some ⟨w.heap.size, 0, none⟩) 1 1) 1 (cellsOf .u8 [x]) := by
  rw [← hW]; exact sl_new w [.int .u8 x] e 1 rfl (by simp [maxLen])
theorem chg_of_eq {w w1 : World} {o : Obj} (hW : w.alloc o = w1) : Chg [] w w1 := by
  rw [← hW]; exact (Chg.refl [] w).alloc o
theorem size_of_eq {w w1 : World} {o : Obj} (hW : w.alloc o = w1) : w1.heap.size = w.heap.size + 1 := by
  rw [← hW]; exact Array.size_push ..
theorem lastN_append (n : Nat) (a b : List Int) : lastN n (lastN n a ++ b) = lastN n (a ++ b) := by
  unfold lastN
  by_cases h : a.length ≤ n
  · rw [show a.length - n = 0 by omega, List.drop_zero]
  · by_cases h2 : b.length ≤ n
    · rw [List.drop_append_of_le_length (by simp; omega), List.drop_append_of_le_length (by simp; omega), List.drop_drop]
      congr 2; simp; omega
    · rw [List.drop_append, List.drop_append, List.drop_drop]
      congr 1
      · rw [List.drop_eq_nil_of_le (by simp; omega), List.drop_eq_nil_of_le (by simp; omega)]
      · congr 1; simp; omega
set_option maxHeartbeats 4000000 in
theorem rput_any (w : World) (g : Nat) (q : Option Nat) (m t : Int) (bs : List Int) (H : RWin w g q m t bs) (A : Option Addr) (n c : Nat) (ys : List Int) (hS : Sl w 1 (.slice A n c) n (cellsOf .u8 ys)) (hd : 0 < n → (Value.slice A n c).ownBlock ≠ some g)
    (h1 : 1 ≤ m) (h2 : m ≤ 1048576) (h3 : bs.length ≤ m) (h4 : n ≤ 100000) (h5 : 0 ≤ t) (h6 : t + n ≤ 1152921504606846976) :
    Calls Try.prog 18 #[.pointer (some ⟨g, 0, none⟩), .slice A n c] w (TrimEnd w g q m (t + n) (lastN m.toNat (bs ++ ys))) := by
  have hyl : ys.length = n := by have := hS.len; simpa using this
  go_enter Try.func18, Try.ntmps18
  go_wp2
  go_loopw [4] (fun i wr => ∃ (k : Nat), k ≤ n ∧ i = .int .i64 k ∧ (∃ q', RWin wr g q' m (t + k) (lastN m.toNat (bs ++ ys.take k)) ∧ ∀ x, q' = some x → q = some x ∨ w.heap.size ≤ x) ∧ Chg [g] w wr) (fun i _ => n - (intOf i).toNat)
  case atStart => exact ⟨0, by omega, rfl, ⟨q, by simpa [lastN, show bs.length - m.toNat = 0 by omega] using H, fun x h => .inl h⟩, Chg.refl _ _⟩
  case round =>
    obtain ⟨k, hk, rfl, ⟨q1, hR, hq1⟩, hC⟩ := hrel
    by_cases hlt : k < n
    · obtain ⟨bb, oo, x, rfl, hx, hcx⟩ := hS.at k hlt
      have hcx := hC.cell hcx (by have := hd (by omega); simpa [Value.ownBlock] using this)
      obtain ⟨bs', hbs⟩ : ∃ bs', bs' = lastN m.toNat (bs ++ ys.take k) := ⟨_, rfl⟩
      rw [← hbs] at hR
      have hbl : bs'.length ≤ m := by rw [hbs, lastN_length]; omega
      obtain ⟨A0, c0, hg, hS0, -, -⟩ := hR
      have hwz := Lib.hid hC.size
      replace hbs := Lib.hid hbs
      replace hS0 := Lib.hid hS0
      have hgl := lt_heap hg
      have q1 : wr.cell? ⟨g, 1, none⟩ = some (.slice A0 bs'.length c0) := by simp [World.cell?, hg]
      have f2 : ∀ w', Chg [] wr w' → w'.frozen? ⟨g, 1, none⟩ = false := fun w' h => by simp [World.frozen?, h.heap hg (by simp)]
      have q2 : ∀ w', Chg [] wr w' → w'.cell? ⟨g, 1, none⟩ = some (.slice A0 bs'.length c0) := fun w' h => h.cell q1 (by simp)
      have q3 : ∀ w', Chg [g] wr w' → w'.cell? ⟨bb, oo + k, none⟩ = some (.int .u8 x) := fun w' h => h.cell hcx (by have := hd (by omega); simpa [Value.ownBlock] using this)
      go_wp2
      refine wp_region_held (S := fun w' => Chg [g] wr w') (by kernel_rfl) ?_
      (try (change wpAnyH _ _ _ _ _ _ _ _ (World.drew _)))
      have hHeld : Chg [g] wr (World.drew wr) := (Chg.refl _ _).drew
      refine wpAnyH_take (i := 0) (v := ?_) rfl (by kernel_rfl) (by kernel_rfl) (by kernel_rfl) (fun _ _ _ h => h) (Or.inl ⟨by kernel_rfl, ?_⟩) (by exact hHeld) ?_
      rotate_left
      · (intro w hSw; clear hSw; go_simp; try with_reducible rfl)
      change wpAnyH _ _ _ _ _ _ _ (Act.put _ (some 11) _) _
      (try simp only [Act.put, List.setIfInBounds_toArray, List.set_cons_zero, List.set_cons_succ])
      refine wpAnyH_take (i := 2) (v := ?_) rfl (by kernel_rfl) (by kernel_rfl) (by kernel_rfl) (fun _ _ _ h => h) (Or.inl ⟨by kernel_rfl, ?_⟩) (by exact hHeld) ?_
      rotate_left
      · (intro w hSw; clear hSw; go_simp; try with_reducible rfl)
      change wpAnyH _ _ _ _ _ _ _ (Act.put _ (some 13) _) _
      (try simp only [Act.put, List.setIfInBounds_toArray, List.set_cons_zero, List.set_cons_succ])
      refine wpAnyH_take (i := 3) (v := ?_) rfl (by kernel_rfl) (by kernel_rfl) (by kernel_rfl) (fun _ _ _ h => h) (Or.inl ⟨by kernel_rfl, ?_⟩) (by exact hHeld) ?_
      rotate_left
      · (intro w hSw; clear hSw; go_simp; try with_reducible rfl)
      change wpAnyH _ _ _ _ _ _ _ (Act.put _ (some 14) _) _
      (try simp only [Act.put, List.setIfInBounds_toArray, List.set_cons_zero, List.set_cons_succ])
      refine wpAnyH_take (i := 4) (v := ?_) rfl (by kernel_rfl) (by kernel_rfl) (by kernel_rfl) (fun _ _ _ h => h) (Or.inl ⟨by kernel_rfl, ?_⟩) (by exact hHeld) ?_
      rotate_left
      · (intro w hSw; clear hSw; go_simp; try with_reducible rfl)
      change wpAnyH _ _ _ _ _ _ _ (Act.put _ (some 15) _) _
      (try simp only [Act.put, List.setIfInBounds_toArray, List.set_cons_zero, List.set_cons_succ])
      refine wpAnyH_take (i := 7) (v := ?_) rfl (by kernel_rfl) (by kernel_rfl) (by kernel_rfl) (fun _ _ _ h => h) (Or.inl ⟨by kernel_rfl, ?_⟩) (by exact hHeld) ?_
      rotate_left
      · (intro w hSw; clear hSw; go_simp; try with_reducible rfl)
      change wpAnyH _ _ _ _ _ _ _ (Act.put _ (some 18) _) _
      (try simp only [Act.put, List.setIfInBounds_toArray, List.set_cons_zero, List.set_cons_succ])
      refine wpAnyH_take (i := 8) (v := ?_) rfl (by kernel_rfl) (by kernel_rfl) (by kernel_rfl) (fun _ _ _ h => h) (Or.inl ⟨by kernel_rfl, ?_⟩) (by exact hHeld) ?_
      rotate_left
      · (intro w hSw; clear hSw; go_simp; try with_reducible rfl)
      change wpAnyH _ _ _ _ _ _ _ (Act.put _ (some 19) _) _
      (try simp only [Act.put, List.setIfInBounds_toArray, List.set_cons_zero, List.set_cons_succ])
      refine wpAnyH_take (i := 9) (v := ?_) rfl (by kernel_rfl) (by kernel_rfl) (by kernel_rfl) (fun _ _ _ h => h) (Or.inl ⟨by kernel_rfl, ?_⟩) (by exact hHeld) ?_
      rotate_left
      · (intro w hSw; have hq := q3 w hSw; clear hSw; go_simp; try with_reducible rfl)
      change wpAnyH _ _ _ _ _ _ _ (Act.put _ (some 20) _) _
      (try simp only [Act.put, List.setIfInBounds_toArray, List.set_cons_zero, List.set_cons_succ])
      refine wpAnyH_take (i := 10) (v := ?_) rfl (by kernel_rfl) (by kernel_rfl) (by kernel_rfl) (fun _ _ _ h => h) (Or.inl ⟨by kernel_rfl, ?_⟩) (by exact hHeld) ?_
      rotate_left
      · (intro w hSw; have hq := q3 w hSw; clear hSw; go_simp; try with_reducible rfl)
      change wpAnyH _ _ _ _ _ _ _ (Act.put _ (some 21) _) _
      (try simp only [Act.put, List.setIfInBounds_toArray, List.set_cons_zero, List.set_cons_succ])
      (have hP : Chg [] wr (World.drew wr) := (Chg.refl _ _).drew); generalize hW : World.drew wr = W0 at hHeld hP ⊢; clear hW
      refine wpAnyH_all (rs := [1, 5, 11]) (by kernel_rfl) (by simp) ?_
      refine AllReadyH.cons rfl (fun K hK => ?_) ?_
      · (go_simp; refine hK.out _ _ (by exact hHeld.alloc _) (fun hH1 => ?_); clear hK K; generalize hW : World.alloc _ _ = W1; rw [hW] at hH1; clear hHeld; have hHeld := hH1; clear hH1; have O6 := own_of_eq hW hP.size; have hD := chg_of_eq hW; have hP := hP.trans hD; have hz1 := Lib.hid (size_of_eq hW); (try replace S11 := S11.chg hD (by simp)); clear hW hD)
        (try simp only [Act.put, List.setIfInBounds_toArray, List.set_cons_zero, List.set_cons_succ])
        refine wpAnyH_all (rs := [5, 11]) (by kernel_rfl) (by simp) ?_
        refine AllReadyH.cons rfl (fun K hK => ?_) ?_
        · (have qB := q2 _ hP; go_simp; refine hK.out _ _ (by exact hHeld) (fun hHeld => ?_); clear hK K qB)
          (try simp only [Act.put, List.setIfInBounds_toArray, List.set_cons_zero, List.set_cons_succ])
          refine wpAnyH_all (rs := [6, 11]) (by kernel_rfl) (by simp) ?_
          refine AllReadyH.cons rfl (fun K hK => ?_) ?_
          · (refine step_append_sl rfl (.tmp 12) (.tmp 16) 22 rfl wr.heap.size 5 (.int .u8 0) 1 1 Try.underlying22 Try.info_u8 rfl (by decide) _ 0 [] O6 rfl _ _ _ (hS0.out.chg hP (by simp)) rfl cellsOf_one bs'.length (by omega) (by omega) (by decide) hP.size ?_; intro A6 c6 w6 O12 hch hat; clear hat; have hP := hP.then hch (fun x hx => .inr (O6.lt x (by simpa using hx)).1); have hHeld := hP.mono (S1 := [g]) (by simp); (try replace S11 := S11.chg hch (fun _ q hq hm => by simp [Value.ownBlock] at hq hm; first | (have z := hz1.out; omega) | (have z := hz11.out; omega))); refine hK.out _ _ (by exact hHeld) (fun _ => ?_); clear hK K hch O6)
            (try simp only [Act.put, List.setIfInBounds_toArray, List.set_cons_zero, List.set_cons_succ])
            refine wpAnyH_all (rs := [11]) (by kernel_rfl) (by simp) ?_
            refine AllReadyH.cons rfl (fun K hK => ?_) ?_
            · (go_simp; refine hK.out _ _ (by exact hHeld.alloc _) (fun hH1 => ?_); clear hK K; generalize hW : World.alloc _ _ = W1; rw [hW] at hH1; clear hHeld; have hHeld := hH1; clear hH1; have S11 := sl_of_eq hW; have hD := chg_of_eq hW; have hP := hP.trans hD; have hz11 := Lib.hid (size_of_eq hW); (try replace O6 := own_chg O6 hD (by simp)); (try replace O12 := own_chg O12 hD (by simp)); clear hW hD)
              (try simp only [Act.put, List.setIfInBounds_toArray, List.set_cons_zero, List.set_cons_succ])
              refine wpAnyH_all (rs := [12]) (by kernel_rfl) (by simp) ?_
              refine AllReadyH.cons rfl (fun K hK => ?_) ?_
              · (refine step_append_sl rfl (.tmp 17) (.tmp 22) 22 rfl wr.heap.size 5 (.int .u8 0) 1 1 Try.underlying22 Try.info_u8 rfl (by decide) _ _ _ O12 rfl _ _ _ S11 rfl cellsOf_one (bs'.length + 1) rfl (by omega) (by decide) hP.size ?_; intro A7 c7 w7 O13 hch hat; clear hat; have hP := hP.then hch (fun x hx => .inr (O12.lt x (by simpa using hx)).1); have hHeld := hP.mono (S1 := [g]) (by simp); refine hK.out _ _ (by exact hHeld) (fun _ => ?_); clear hK K hch O12 S11)
                (try simp only [Act.put, List.setIfInBounds_toArray, List.set_cons_zero, List.set_cons_succ])
                refine wpAnyH_take (i := 13) (v := ?_) rfl (by kernel_rfl) (by kernel_rfl) (by kernel_rfl) (fun _ _ _ h => h) (Or.inl ⟨by kernel_rfl, ?_⟩) (by exact hHeld) ?_
                rotate_left
                · (intro w hSw; clear hSw; go_simp; try with_reducible rfl)
                change wpAnyH _ _ _ _ _ _ _ (Act.put _ (some 24) _) _
                (try simp only [Act.put, List.setIfInBounds_toArray, List.set_cons_zero, List.set_cons_succ])
                refine wpAnyH_take (i := 14) (v := ?_) rfl (by kernel_rfl) (by kernel_rfl) (by kernel_rfl) (fun _ _ _ h => h) (Or.inl ⟨by kernel_rfl, ?_⟩) (by exact hHeld) ?_
                rotate_left
                · (intro w hSw; clear hSw; go_simp; try with_reducible rfl)
                change wpAnyH _ _ _ _ _ _ _ (Act.put _ (some 25) _) _
                (try simp only [Act.put, List.setIfInBounds_toArray, List.set_cons_zero, List.set_cons_succ])
                refine wpAnyH_all (rs := [15]) (by kernel_rfl) (by simp) ?_
                refine AllReadyH.cons rfl (fun K hK => ?_) ?_
                · (have qs := q2 _ hP; have fs := f2 _ hP; go_simp; refine hK.out _ _ (by exact hHeld.setCell (.inl (by simp)) _) (fun _ => ?_); clear hK K qs fs)
                  (try simp only [Act.put, List.setIfInBounds_toArray, List.set_cons_zero, List.set_cons_succ])
                  refine wpAnyH_done (by kernel_rfl) ?_ _
                  (try simp only [Act.put, List.setIfInBounds_toArray, List.set_cons_zero, List.set_cons_succ])
                  have hne7 : (Value.slice A7 (bs'.length + 1) c7).ownBlock ≠ some g := fun e => by have := (O13.lt g e).1; omega
                  have hG8 := blk_set (hP.heap hg (by simp)) 1 (.slice A7 (bs'.length + 1) c7)
                  have hC8 := hHeld.setCell (p := ⟨g, 1, none⟩) (.inl (by simp)) (.slice A7 (bs'.length + 1) c7)
                  have O8 := own_set O13 g 1 (.slice A7 (bs'.length + 1) c7) hne7
                  generalize hW : World.setCell _ _ _ = W8
                  rw [hW] at hG8 hC8 O8
                  have c2 : W8.cell? ⟨g, 2, none⟩ = some (.int .i64 (t + k)) := by simp [World.cell?, hG8]
                  have f3 : W8.frozen? ⟨g, 2, none⟩ = false := by simp [World.frozen?, hG8]
                  have hR9 : ∀ W9, W9 = W8.setCell ⟨g, 2, none⟩ (.int .i64 (t + k + 1)) → (∃ q', RWin W9 g q' m (t + k + 1) (bs' ++ [x]) ∧ ∀ x, q' = some x → w.heap.size ≤ x) ∧ Chg [g] w W9 := fun W9 e => by
                    have hC9 := (Chg.refl [g] W8).setCell (p := ⟨g, 2, none⟩) (.inl (by simp)) (.int .i64 (t + k + 1))
                    rw [← e] at hC9
                    refine ⟨⟨(Value.slice A7 (bs'.length + 1) c7).ownBlock, ⟨A7, c7, ?_, ?_, ?_, ?_⟩, fun x hx => Nat.le_trans hwz.out (O8.lt x hx).1⟩, (hC.trans hC8).trans hC9⟩
                    · rw [e, blk_set hG8 2, List.length_append]; rfl
                    · have := (own_sl O8).chg hC9 (fun _ q hq hm => by simp at hm; subst hm; exact hne7 hq)
                      rw [List.length_append, cellsOf_append]; exact this
                    · rw [List.length_append]; rfl
                    · intro x hx; exact ⟨Nat.lt_of_lt_of_le (O8.lt x hx).2 hC9.size, fun e => hne7 (by rw [hx, e])⟩
                  have hlast : lastN m.toNat (bs' ++ [x]) = lastN m.toNat (bs ++ ys.take (k + 1)) := by
                    have e1 : ys.take (k + 1) = ys.take k ++ [x] := by rw [List.take_add_one, hx]; rfl
                    rw [hbs.out, lastN_append, e1, List.append_assoc]
                  replace hR9 := Lib.hid hR9
                  replace hlast := Lib.hid hlast
                  clear hW O8 O13 hG8 hP hHeld hne7 hC hC8 q2 q3 f2 q1 hx hcx hg hS0 hq1 hwz
                  go_wp2_with fail
                  generalize hW : World.setCell _ _ _ = W9
                  obtain ⟨⟨q9, hR, hq9⟩, hC⟩ := hR9.out W9 (by rw [← hW]; try simp only [Int.add_assoc])
                  clear hR9 hW
                  refine (trim_any _ g q9 m _ _ hR h1 h2 (by simp; omega)).mono ?_
                  rintro e w10 ⟨rfl, q10, hR10, hq10, hC10⟩
                  have hq11 : Hid (∀ x, q10 = some x → q = some x ∨ w.heap.size ≤ x) := fun x hx => .inr ((hq10 x hx).elim (hq9 x) (fun h => Nat.le_trans hC.size h))
                  rw [hlast.out] at hR10
                  have hR11 := Lib.hid hR10
                  have hC11 := Lib.hid (hC.trans hC10)
                  clear hR hC hR10 hC10 hq9 hq10
                  go_wp2
                  go_roundw
                  case rel => exact ⟨k + 1, by omega, by go_num, ⟨q10, by have := hR11.out; simpa [Int.add_assoc] using this, hq11.out⟩, hC11.out⟩
                  case measure => simp [intOf]; omega
                exact AllReadyH.nil
              exact AllReadyH.nil
            exact AllReadyH.nil
          refine AllReadyH.cons rfl (fun K hK => ?_) ?_
          · (go_simp; refine hK.out _ _ (by exact hHeld.alloc _) (fun hH1 => ?_); clear hK K; generalize hW : World.alloc _ _ = W1; rw [hW] at hH1; clear hHeld; have hHeld := hH1; clear hH1; have S11 := sl_of_eq hW; have hD := chg_of_eq hW; have hP := hP.trans hD; have hz11 := Lib.hid (size_of_eq hW); (try replace O6 := own_chg O6 hD (by simp)); (try replace O12 := own_chg O12 hD (by simp)); clear hW hD)
            (try simp only [Act.put, List.setIfInBounds_toArray, List.set_cons_zero, List.set_cons_succ])
            refine wpAnyH_all (rs := [6]) (by kernel_rfl) (by simp) ?_
            refine AllReadyH.cons rfl (fun K hK => ?_) ?_
            · (refine step_append_sl rfl (.tmp 12) (.tmp 16) 22 rfl wr.heap.size 5 (.int .u8 0) 1 1 Try.underlying22 Try.info_u8 rfl (by decide) _ 0 [] O6 rfl _ _ _ (hS0.out.chg hP (by simp)) rfl cellsOf_one bs'.length (by omega) (by omega) (by decide) hP.size ?_; intro A6 c6 w6 O12 hch hat; clear hat; have hP := hP.then hch (fun x hx => .inr (O6.lt x (by simpa using hx)).1); have hHeld := hP.mono (S1 := [g]) (by simp); (try replace S11 := S11.chg hch (fun _ q hq hm => by simp [Value.ownBlock] at hq hm; first | (have z := hz1.out; omega) | (have z := hz11.out; omega))); refine hK.out _ _ (by exact hHeld) (fun _ => ?_); clear hK K hch O6)
              (try simp only [Act.put, List.setIfInBounds_toArray, List.set_cons_zero, List.set_cons_succ])
              refine wpAnyH_all (rs := [12]) (by kernel_rfl) (by simp) ?_
              refine AllReadyH.cons rfl (fun K hK => ?_) ?_
              · (refine step_append_sl rfl (.tmp 17) (.tmp 22) 22 rfl wr.heap.size 5 (.int .u8 0) 1 1 Try.underlying22 Try.info_u8 rfl (by decide) _ _ _ O12 rfl _ _ _ S11 rfl cellsOf_one (bs'.length + 1) rfl (by omega) (by decide) hP.size ?_; intro A7 c7 w7 O13 hch hat; clear hat; have hP := hP.then hch (fun x hx => .inr (O12.lt x (by simpa using hx)).1); have hHeld := hP.mono (S1 := [g]) (by simp); refine hK.out _ _ (by exact hHeld) (fun _ => ?_); clear hK K hch O12 S11)
                (try simp only [Act.put, List.setIfInBounds_toArray, List.set_cons_zero, List.set_cons_succ])
                refine wpAnyH_take (i := 13) (v := ?_) rfl (by kernel_rfl) (by kernel_rfl) (by kernel_rfl) (fun _ _ _ h => h) (Or.inl ⟨by kernel_rfl, ?_⟩) (by exact hHeld) ?_
                rotate_left
                · (intro w hSw; clear hSw; go_simp; try with_reducible rfl)
                change wpAnyH _ _ _ _ _ _ _ (Act.put _ (some 24) _) _
                (try simp only [Act.put, List.setIfInBounds_toArray, List.set_cons_zero, List.set_cons_succ])
                refine wpAnyH_take (i := 14) (v := ?_) rfl (by kernel_rfl) (by kernel_rfl) (by kernel_rfl) (fun _ _ _ h => h) (Or.inl ⟨by kernel_rfl, ?_⟩) (by exact hHeld) ?_
                rotate_left
                · (intro w hSw; clear hSw; go_simp; try with_reducible rfl)
                change wpAnyH _ _ _ _ _ _ _ (Act.put _ (some 25) _) _
                (try simp only [Act.put, List.setIfInBounds_toArray, List.set_cons_zero, List.set_cons_succ])
                refine wpAnyH_all (rs := [15]) (by kernel_rfl) (by simp) ?_
                refine AllReadyH.cons rfl (fun K hK => ?_) ?_
                · (have qs := q2 _ hP; have fs := f2 _ hP; go_simp; refine hK.out _ _ (by exact hHeld.setCell (.inl (by simp)) _) (fun _ => ?_); clear hK K qs fs)
                  (try simp only [Act.put, List.setIfInBounds_toArray, List.set_cons_zero, List.set_cons_succ])
                  refine wpAnyH_done (by kernel_rfl) ?_ _
                  (try simp only [Act.put, List.setIfInBounds_toArray, List.set_cons_zero, List.set_cons_succ])
                  have hne7 : (Value.slice A7 (bs'.length + 1) c7).ownBlock ≠ some g := fun e => by have := (O13.lt g e).1; omega
                  have hG8 := blk_set (hP.heap hg (by simp)) 1 (.slice A7 (bs'.length + 1) c7)
                  have hC8 := hHeld.setCell (p := ⟨g, 1, none⟩) (.inl (by simp)) (.slice A7 (bs'.length + 1) c7)
                  have O8 := own_set O13 g 1 (.slice A7 (bs'.length + 1) c7) hne7
                  generalize hW : World.setCell _ _ _ = W8
                  rw [hW] at hG8 hC8 O8
                  have c2 : W8.cell? ⟨g, 2, none⟩ = some (.int .i64 (t + k)) := by simp [World.cell?, hG8]
                  have f3 : W8.frozen? ⟨g, 2, none⟩ = false := by simp [World.frozen?, hG8]
                  have hR9 : ∀ W9, W9 = W8.setCell ⟨g, 2, none⟩ (.int .i64 (t + k + 1)) → (∃ q', RWin W9 g q' m (t + k + 1) (bs' ++ [x]) ∧ ∀ x, q' = some x → w.heap.size ≤ x) ∧ Chg [g] w W9 := fun W9 e => by
                    have hC9 := (Chg.refl [g] W8).setCell (p := ⟨g, 2, none⟩) (.inl (by simp)) (.int .i64 (t + k + 1))
                    rw [← e] at hC9
                    refine ⟨⟨(Value.slice A7 (bs'.length + 1) c7).ownBlock, ⟨A7, c7, ?_, ?_, ?_, ?_⟩, fun x hx => Nat.le_trans hwz.out (O8.lt x hx).1⟩, (hC.trans hC8).trans hC9⟩
                    · rw [e, blk_set hG8 2, List.length_append]; rfl
                    · have := (own_sl O8).chg hC9 (fun _ q hq hm => by simp at hm; subst hm; exact hne7 hq)
                      rw [List.length_append, cellsOf_append]; exact this
                    · rw [List.length_append]; rfl
                    · intro x hx; exact ⟨Nat.lt_of_lt_of_le (O8.lt x hx).2 hC9.size, fun e => hne7 (by rw [hx, e])⟩
                  have hlast : lastN m.toNat (bs' ++ [x]) = lastN m.toNat (bs ++ ys.take (k + 1)) := by
                    have e1 : ys.take (k + 1) = ys.take k ++ [x] := by rw [List.take_add_one, hx]; rfl
                    rw [hbs.out, lastN_append, e1, List.append_assoc]
                  replace hR9 := Lib.hid hR9
                  replace hlast := Lib.hid hlast
                  clear hW O8 O13 hG8 hP hHeld hne7 hC hC8 q2 q3 f2 q1 hx hcx hg hS0 hq1 hwz
                  go_wp2_with fail
                  generalize hW : World.setCell _ _ _ = W9
                  obtain ⟨⟨q9, hR, hq9⟩, hC⟩ := hR9.out W9 (by rw [← hW]; try simp only [Int.add_assoc])
                  clear hR9 hW
                  refine (trim_any _ g q9 m _ _ hR h1 h2 (by simp; omega)).mono ?_
                  rintro e w10 ⟨rfl, q10, hR10, hq10, hC10⟩
                  have hq11 : Hid (∀ x, q10 = some x → q = some x ∨ w.heap.size ≤ x) := fun x hx => .inr ((hq10 x hx).elim (hq9 x) (fun h => Nat.le_trans hC.size h))
                  rw [hlast.out] at hR10
                  have hR11 := Lib.hid hR10
                  have hC11 := Lib.hid (hC.trans hC10)
                  clear hR hC hR10 hC10 hq9 hq10
                  go_wp2
                  go_roundw
                  case rel => exact ⟨k + 1, by omega, by go_num, ⟨q10, by have := hR11.out; simpa [Int.add_assoc] using this, hq11.out⟩, hC11.out⟩
                  case measure => simp [intOf]; omega
                exact AllReadyH.nil
              exact AllReadyH.nil
            exact AllReadyH.nil
          exact AllReadyH.nil
        refine AllReadyH.cons rfl (fun K hK => ?_) ?_
        · (go_simp; refine hK.out _ _ (by exact hHeld.alloc _) (fun hH1 => ?_); clear hK K; generalize hW : World.alloc _ _ = W1; rw [hW] at hH1; clear hHeld; have hHeld := hH1; clear hH1; have S11 := sl_of_eq hW; have hD := chg_of_eq hW; have hP := hP.trans hD; have hz11 := Lib.hid (size_of_eq hW); (try replace O6 := own_chg O6 hD (by simp)); (try replace O12 := own_chg O12 hD (by simp)); clear hW hD)
          (try simp only [Act.put, List.setIfInBounds_toArray, List.set_cons_zero, List.set_cons_succ])
          refine wpAnyH_all (rs := [5]) (by kernel_rfl) (by simp) ?_
          refine AllReadyH.cons rfl (fun K hK => ?_) ?_
          · (have qB := q2 _ hP; go_simp; refine hK.out _ _ (by exact hHeld) (fun hHeld => ?_); clear hK K qB)
            (try simp only [Act.put, List.setIfInBounds_toArray, List.set_cons_zero, List.set_cons_succ])
            refine wpAnyH_all (rs := [6]) (by kernel_rfl) (by simp) ?_
            refine AllReadyH.cons rfl (fun K hK => ?_) ?_
            · (refine step_append_sl rfl (.tmp 12) (.tmp 16) 22 rfl wr.heap.size 5 (.int .u8 0) 1 1 Try.underlying22 Try.info_u8 rfl (by decide) _ 0 [] O6 rfl _ _ _ (hS0.out.chg hP (by simp)) rfl cellsOf_one bs'.length (by omega) (by omega) (by decide) hP.size ?_; intro A6 c6 w6 O12 hch hat; clear hat; have hP := hP.then hch (fun x hx => .inr (O6.lt x (by simpa using hx)).1); have hHeld := hP.mono (S1 := [g]) (by simp); (try replace S11 := S11.chg hch (fun _ q hq hm => by simp [Value.ownBlock] at hq hm; first | (have z := hz1.out; omega) | (have z := hz11.out; omega))); refine hK.out _ _ (by exact hHeld) (fun _ => ?_); clear hK K hch O6)
              (try simp only [Act.put, List.setIfInBounds_toArray, List.set_cons_zero, List.set_cons_succ])
              refine wpAnyH_all (rs := [12]) (by kernel_rfl) (by simp) ?_
              refine AllReadyH.cons rfl (fun K hK => ?_) ?_
              · (refine step_append_sl rfl (.tmp 17) (.tmp 22) 22 rfl wr.heap.size 5 (.int .u8 0) 1 1 Try.underlying22 Try.info_u8 rfl (by decide) _ _ _ O12 rfl _ _ _ S11 rfl cellsOf_one (bs'.length + 1) rfl (by omega) (by decide) hP.size ?_; intro A7 c7 w7 O13 hch hat; clear hat; have hP := hP.then hch (fun x hx => .inr (O12.lt x (by simpa using hx)).1); have hHeld := hP.mono (S1 := [g]) (by simp); refine hK.out _ _ (by exact hHeld) (fun _ => ?_); clear hK K hch O12 S11)
                (try simp only [Act.put, List.setIfInBounds_toArray, List.set_cons_zero, List.set_cons_succ])
                refine wpAnyH_take (i := 13) (v := ?_) rfl (by kernel_rfl) (by kernel_rfl) (by kernel_rfl) (fun _ _ _ h => h) (Or.inl ⟨by kernel_rfl, ?_⟩) (by exact hHeld) ?_
                rotate_left
                · (intro w hSw; clear hSw; go_simp; try with_reducible rfl)
                change wpAnyH _ _ _ _ _ _ _ (Act.put _ (some 24) _) _
                (try simp only [Act.put, List.setIfInBounds_toArray, List.set_cons_zero, List.set_cons_succ])
                refine wpAnyH_take (i := 14) (v := ?_) rfl (by kernel_rfl) (by kernel_rfl) (by kernel_rfl) (fun _ _ _ h => h) (Or.inl ⟨by kernel_rfl, ?_⟩) (by exact hHeld) ?_
                rotate_left
                · (intro w hSw; clear hSw; go_simp; try with_reducible rfl)
                change wpAnyH _ _ _ _ _ _ _ (Act.put _ (some 25) _) _
                (try simp only [Act.put, List.setIfInBounds_toArray, List.set_cons_zero, List.set_cons_succ])
                refine wpAnyH_all (rs := [15]) (by kernel_rfl) (by simp) ?_
                refine AllReadyH.cons rfl (fun K hK => ?_) ?_
                · (have qs := q2 _ hP; have fs := f2 _ hP; go_simp; refine hK.out _ _ (by exact hHeld.setCell (.inl (by simp)) _) (fun _ => ?_); clear hK K qs fs)
                  (try simp only [Act.put, List.setIfInBounds_toArray, List.set_cons_zero, List.set_cons_succ])
                  refine wpAnyH_done (by kernel_rfl) ?_ _
                  (try simp only [Act.put, List.setIfInBounds_toArray, List.set_cons_zero, List.set_cons_succ])
                  have hne7 : (Value.slice A7 (bs'.length + 1) c7).ownBlock ≠ some g := fun e => by have := (O13.lt g e).1; omega
                  have hG8 := blk_set (hP.heap hg (by simp)) 1 (.slice A7 (bs'.length + 1) c7)
                  have hC8 := hHeld.setCell (p := ⟨g, 1, none⟩) (.inl (by simp)) (.slice A7 (bs'.length + 1) c7)
                  have O8 := own_set O13 g 1 (.slice A7 (bs'.length + 1) c7) hne7
                  generalize hW : World.setCell _ _ _ = W8
                  rw [hW] at hG8 hC8 O8
                  have c2 : W8.cell? ⟨g, 2, none⟩ = some (.int .i64 (t + k)) := by simp [World.cell?, hG8]
                  have f3 : W8.frozen? ⟨g, 2, none⟩ = false := by simp [World.frozen?, hG8]
                  have hR9 : ∀ W9, W9 = W8.setCell ⟨g, 2, none⟩ (.int .i64 (t + k + 1)) → (∃ q', RWin W9 g q' m (t + k + 1) (bs' ++ [x]) ∧ ∀ x, q' = some x → w.heap.size ≤ x) ∧ Chg [g] w W9 := fun W9 e => by
                    have hC9 := (Chg.refl [g] W8).setCell (p := ⟨g, 2, none⟩) (.inl (by simp)) (.int .i64 (t + k + 1))
                    rw [← e] at hC9
                    refine ⟨⟨(Value.slice A7 (bs'.length + 1) c7).ownBlock, ⟨A7, c7, ?_, ?_, ?_, ?_⟩, fun x hx => Nat.le_trans hwz.out (O8.lt x hx).1⟩, (hC.trans hC8).trans hC9⟩
                    · rw [e, blk_set hG8 2, List.length_append]; rfl
                    · have := (own_sl O8).chg hC9 (fun _ q hq hm => by simp at hm; subst hm; exact hne7 hq)
                      rw [List.length_append, cellsOf_append]; exact this
                    · rw [List.length_append]; rfl
                    · intro x hx; exact ⟨Nat.lt_of_lt_of_le (O8.lt x hx).2 hC9.size, fun e => hne7 (by rw [hx, e])⟩
                  have hlast : lastN m.toNat (bs' ++ [x]) = lastN m.toNat (bs ++ ys.take (k + 1)) := by
                    have e1 : ys.take (k + 1) = ys.take k ++ [x] := by rw [List.take_add_one, hx]; rfl
                    rw [hbs.out, lastN_append, e1, List.append_assoc]
                  replace hR9 := Lib.hid hR9
                  replace hlast := Lib.hid hlast
                  clear hW O8 O13 hG8 hP hHeld hne7 hC hC8 q2 q3 f2 q1 hx hcx hg hS0 hq1 hwz
                  go_wp2_with fail
                  generalize hW : World.setCell _ _ _ = W9
                  obtain ⟨⟨q9, hR, hq9⟩, hC⟩ := hR9.out W9 (by rw [← hW]; try simp only [Int.add_assoc])
                  clear hR9 hW
                  refine (trim_any _ g q9 m _ _ hR h1 h2 (by simp; omega)).mono ?_
                  rintro e w10 ⟨rfl, q10, hR10, hq10, hC10⟩
                  have hq11 : Hid (∀ x, q10 = some x → q = some x ∨ w.heap.size ≤ x) := fun x hx => .inr ((hq10 x hx).elim (hq9 x) (fun h => Nat.le_trans hC.size h))
                  rw [hlast.out] at hR10
                  have hR11 := Lib.hid hR10
                  have hC11 := Lib.hid (hC.trans hC10)
                  clear hR hC hR10 hC10 hq9 hq10
                  go_wp2
                  go_roundw
                  case rel => exact ⟨k + 1, by omega, by go_num, ⟨q10, by have := hR11.out; simpa [Int.add_assoc] using this, hq11.out⟩, hC11.out⟩
                  case measure => simp [intOf]; omega
                exact AllReadyH.nil
              exact AllReadyH.nil
            exact AllReadyH.nil
          exact AllReadyH.nil
        exact AllReadyH.nil
      refine AllReadyH.cons rfl (fun K hK => ?_) ?_
      · (have qB := q2 _ hP; go_simp; refine hK.out _ _ (by exact hHeld) (fun hHeld => ?_); clear hK K qB)
        (try simp only [Act.put, List.setIfInBounds_toArray, List.set_cons_zero, List.set_cons_succ])
        refine wpAnyH_all (rs := [1, 11]) (by kernel_rfl) (by simp) ?_
        refine AllReadyH.cons rfl (fun K hK => ?_) ?_
        · (go_simp; refine hK.out _ _ (by exact hHeld.alloc _) (fun hH1 => ?_); clear hK K; generalize hW : World.alloc _ _ = W1; rw [hW] at hH1; clear hHeld; have hHeld := hH1; clear hH1; have O6 := own_of_eq hW hP.size; have hD := chg_of_eq hW; have hP := hP.trans hD; have hz1 := Lib.hid (size_of_eq hW); (try replace S11 := S11.chg hD (by simp)); clear hW hD)
          (try simp only [Act.put, List.setIfInBounds_toArray, List.set_cons_zero, List.set_cons_succ])
          refine wpAnyH_all (rs := [6, 11]) (by kernel_rfl) (by simp) ?_
          refine AllReadyH.cons rfl (fun K hK => ?_) ?_
          · (refine step_append_sl rfl (.tmp 12) (.tmp 16) 22 rfl wr.heap.size 5 (.int .u8 0) 1 1 Try.underlying22 Try.info_u8 rfl (by decide) _ 0 [] O6 rfl _ _ _ (hS0.out.chg hP (by simp)) rfl cellsOf_one bs'.length (by omega) (by omega) (by decide) hP.size ?_; intro A6 c6 w6 O12 hch hat; clear hat; have hP := hP.then hch (fun x hx => .inr (O6.lt x (by simpa using hx)).1); have hHeld := hP.mono (S1 := [g]) (by simp); (try replace S11 := S11.chg hch (fun _ q hq hm => by simp [Value.ownBlock] at hq hm; first | (have z := hz1.out; omega) | (have z := hz11.out; omega))); refine hK.out _ _ (by exact hHeld) (fun _ => ?_); clear hK K hch O6)
            (try simp only [Act.put, List.setIfInBounds_toArray, List.set_cons_zero, List.set_cons_succ])
            refine wpAnyH_all (rs := [11]) (by kernel_rfl) (by simp) ?_
            refine AllReadyH.cons rfl (fun K hK => ?_) ?_
            · (go_simp; refine hK.out _ _ (by exact hHeld.alloc _) (fun hH1 => ?_); clear hK K; generalize hW : World.alloc _ _ = W1; rw [hW] at hH1; clear hHeld; have hHeld := hH1; clear hH1; have S11 := sl_of_eq hW; have hD := chg_of_eq hW; have hP := hP.trans hD; have hz11 := Lib.hid (size_of_eq hW); (try replace O6 := own_chg O6 hD (by simp)); (try replace O12 := own_chg O12 hD (by simp)); clear hW hD)
              (try simp only [Act.put, List.setIfInBounds_toArray, List.set_cons_zero, List.set_cons_succ])
              refine wpAnyH_all (rs := [12]) (by kernel_rfl) (by simp) ?_
              refine AllReadyH.cons rfl (fun K hK => ?_) ?_
              · (refine step_append_sl rfl (.tmp 17) (.tmp 22) 22 rfl wr.heap.size 5 (.int .u8 0) 1 1 Try.underlying22 Try.info_u8 rfl (by decide) _ _ _ O12 rfl _ _ _ S11 rfl cellsOf_one (bs'.length + 1) rfl (by omega) (by decide) hP.size ?_; intro A7 c7 w7 O13 hch hat; clear hat; have hP := hP.then hch (fun x hx => .inr (O12.lt x (by simpa using hx)).1); have hHeld := hP.mono (S1 := [g]) (by simp); refine hK.out _ _ (by exact hHeld) (fun _ => ?_); clear hK K hch O12 S11)
                (try simp only [Act.put, List.setIfInBounds_toArray, List.set_cons_zero, List.set_cons_succ])
                refine wpAnyH_take (i := 13) (v := ?_) rfl (by kernel_rfl) (by kernel_rfl) (by kernel_rfl) (fun _ _ _ h => h) (Or.inl ⟨by kernel_rfl, ?_⟩) (by exact hHeld) ?_
                rotate_left
                · (intro w hSw; clear hSw; go_simp; try with_reducible rfl)
                change wpAnyH _ _ _ _ _ _ _ (Act.put _ (some 24) _) _
                (try simp only [Act.put, List.setIfInBounds_toArray, List.set_cons_zero, List.set_cons_succ])
                refine wpAnyH_take (i := 14) (v := ?_) rfl (by kernel_rfl) (by kernel_rfl) (by kernel_rfl) (fun _ _ _ h => h) (Or.inl ⟨by kernel_rfl, ?_⟩) (by exact hHeld) ?_
                rotate_left
                · (intro w hSw; clear hSw; go_simp; try with_reducible rfl)
                change wpAnyH _ _ _ _ _ _ _ (Act.put _ (some 25) _) _
                (try simp only [Act.put, List.setIfInBounds_toArray, List.set_cons_zero, List.set_cons_succ])
                refine wpAnyH_all (rs := [15]) (by kernel_rfl) (by simp) ?_
                refine AllReadyH.cons rfl (fun K hK => ?_) ?_
                · (have qs := q2 _ hP; have fs := f2 _ hP; go_simp; refine hK.out _ _ (by exact hHeld.setCell (.inl (by simp)) _) (fun _ => ?_); clear hK K qs fs)
                  (try simp only [Act.put, List.setIfInBounds_toArray, List.set_cons_zero, List.set_cons_succ])
                  refine wpAnyH_done (by kernel_rfl) ?_ _
                  (try simp only [Act.put, List.setIfInBounds_toArray, List.set_cons_zero, List.set_cons_succ])
                  have hne7 : (Value.slice A7 (bs'.length + 1) c7).ownBlock ≠ some g := fun e => by have := (O13.lt g e).1; omega
                  have hG8 := blk_set (hP.heap hg (by simp)) 1 (.slice A7 (bs'.length + 1) c7)
                  have hC8 := hHeld.setCell (p := ⟨g, 1, none⟩) (.inl (by simp)) (.slice A7 (bs'.length + 1) c7)
                  have O8 := own_set O13 g 1 (.slice A7 (bs'.length + 1) c7) hne7
                  generalize hW : World.setCell _ _ _ = W8
                  rw [hW] at hG8 hC8 O8
                  have c2 : W8.cell? ⟨g, 2, none⟩ = some (.int .i64 (t + k)) := by simp [World.cell?, hG8]
                  have f3 : W8.frozen? ⟨g, 2, none⟩ = false := by simp [World.frozen?, hG8]
                  have hR9 : ∀ W9, W9 = W8.setCell ⟨g, 2, none⟩ (.int .i64 (t + k + 1)) → (∃ q', RWin W9 g q' m (t + k + 1) (bs' ++ [x]) ∧ ∀ x, q' = some x → w.heap.size ≤ x) ∧ Chg [g] w W9 := fun W9 e => by
                    have hC9 := (Chg.refl [g] W8).setCell (p := ⟨g, 2, none⟩) (.inl (by simp)) (.int .i64 (t + k + 1))
                    rw [← e] at hC9
                    refine ⟨⟨(Value.slice A7 (bs'.length + 1) c7).ownBlock, ⟨A7, c7, ?_, ?_, ?_, ?_⟩, fun x hx => Nat.le_trans hwz.out (O8.lt x hx).1⟩, (hC.trans hC8).trans hC9⟩
                    · rw [e, blk_set hG8 2, List.length_append]; rfl
                    · have := (own_sl O8).chg hC9 (fun _ q hq hm => by simp at hm; subst hm; exact hne7 hq)
                      rw [List.length_append, cellsOf_append]; exact this
                    · rw [List.length_append]; rfl
                    · intro x hx; exact ⟨Nat.lt_of_lt_of_le (O8.lt x hx).2 hC9.size, fun e => hne7 (by rw [hx, e])⟩
                  have hlast : lastN m.toNat (bs' ++ [x]) = lastN m.toNat (bs ++ ys.take (k + 1)) := by
                    have e1 : ys.take (k + 1) = ys.take k ++ [x] := by rw [List.take_add_one, hx]; rfl
                    rw [hbs.out, lastN_append, e1, List.append_assoc]
                  replace hR9 := Lib.hid hR9
                  replace hlast := Lib.hid hlast
                  clear hW O8 O13 hG8 hP hHeld hne7 hC hC8 q2 q3 f2 q1 hx hcx hg hS0 hq1 hwz
                  go_wp2_with fail
                  generalize hW : World.setCell _ _ _ = W9
                  obtain ⟨⟨q9, hR, hq9⟩, hC⟩ := hR9.out W9 (by rw [← hW]; try simp only [Int.add_assoc])
                  clear hR9 hW
                  refine (trim_any _ g q9 m _ _ hR h1 h2 (by simp; omega)).mono ?_
                  rintro e w10 ⟨rfl, q10, hR10, hq10, hC10⟩
                  have hq11 : Hid (∀ x, q10 = some x → q = some x ∨ w.heap.size ≤ x) := fun x hx => .inr ((hq10 x hx).elim (hq9 x) (fun h => Nat.le_trans hC.size h))
                  rw [hlast.out] at hR10
                  have hR11 := Lib.hid hR10
                  have hC11 := Lib.hid (hC.trans hC10)
                  clear hR hC hR10 hC10 hq9 hq10
                  go_wp2
                  go_roundw
                  case rel => exact ⟨k + 1, by omega, by go_num, ⟨q10, by have := hR11.out; simpa [Int.add_assoc] using this, hq11.out⟩, hC11.out⟩
                  case measure => simp [intOf]; omega
                exact AllReadyH.nil
              exact AllReadyH.nil
            exact AllReadyH.nil
          refine AllReadyH.cons rfl (fun K hK => ?_) ?_
          · (go_simp; refine hK.out _ _ (by exact hHeld.alloc _) (fun hH1 => ?_); clear hK K; generalize hW : World.alloc _ _ = W1; rw [hW] at hH1; clear hHeld; have hHeld := hH1; clear hH1; have S11 := sl_of_eq hW; have hD := chg_of_eq hW; have hP := hP.trans hD; have hz11 := Lib.hid (size_of_eq hW); (try replace O6 := own_chg O6 hD (by simp)); (try replace O12 := own_chg O12 hD (by simp)); clear hW hD)
            (try simp only [Act.put, List.setIfInBounds_toArray, List.set_cons_zero, List.set_cons_succ])
            refine wpAnyH_all (rs := [6]) (by kernel_rfl) (by simp) ?_
            refine AllReadyH.cons rfl (fun K hK => ?_) ?_
            · (refine step_append_sl rfl (.tmp 12) (.tmp 16) 22 rfl wr.heap.size 5 (.int .u8 0) 1 1 Try.underlying22 Try.info_u8 rfl (by decide) _ 0 [] O6 rfl _ _ _ (hS0.out.chg hP (by simp)) rfl cellsOf_one bs'.length (by omega) (by omega) (by decide) hP.size ?_; intro A6 c6 w6 O12 hch hat; clear hat; have hP := hP.then hch (fun x hx => .inr (O6.lt x (by simpa using hx)).1); have hHeld := hP.mono (S1 := [g]) (by simp); (try replace S11 := S11.chg hch (fun _ q hq hm => by simp [Value.ownBlock] at hq hm; first | (have z := hz1.out; omega) | (have z := hz11.out; omega))); refine hK.out _ _ (by exact hHeld) (fun _ => ?_); clear hK K hch O6)
              (try simp only [Act.put, List.setIfInBounds_toArray, List.set_cons_zero, List.set_cons_succ])
              refine wpAnyH_all (rs := [12]) (by kernel_rfl) (by simp) ?_
              refine AllReadyH.cons rfl (fun K hK => ?_) ?_
              · (refine step_append_sl rfl (.tmp 17) (.tmp 22) 22 rfl wr.heap.size 5 (.int .u8 0) 1 1 Try.underlying22 Try.info_u8 rfl (by decide) _ _ _ O12 rfl _ _ _ S11 rfl cellsOf_one (bs'.length + 1) rfl (by omega) (by decide) hP.size ?_; intro A7 c7 w7 O13 hch hat; clear hat; have hP := hP.then hch (fun x hx => .inr (O12.lt x (by simpa using hx)).1); have hHeld := hP.mono (S1 := [g]) (by simp); refine hK.out _ _ (by exact hHeld) (fun _ => ?_); clear hK K hch O12 S11)
                (try simp only [Act.put, List.setIfInBounds_toArray, List.set_cons_zero, List.set_cons_succ])
                refine wpAnyH_take (i := 13) (v := ?_) rfl (by kernel_rfl) (by kernel_rfl) (by kernel_rfl) (fun _ _ _ h => h) (Or.inl ⟨by kernel_rfl, ?_⟩) (by exact hHeld) ?_
                rotate_left
                · (intro w hSw; clear hSw; go_simp; try with_reducible rfl)
                change wpAnyH _ _ _ _ _ _ _ (Act.put _ (some 24) _) _
                (try simp only [Act.put, List.setIfInBounds_toArray, List.set_cons_zero, List.set_cons_succ])
                refine wpAnyH_take (i := 14) (v := ?_) rfl (by kernel_rfl) (by kernel_rfl) (by kernel_rfl) (fun _ _ _ h => h) (Or.inl ⟨by kernel_rfl, ?_⟩) (by exact hHeld) ?_
                rotate_left
                · (intro w hSw; clear hSw; go_simp; try with_reducible rfl)
                change wpAnyH _ _ _ _ _ _ _ (Act.put _ (some 25) _) _
                (try simp only [Act.put, List.setIfInBounds_toArray, List.set_cons_zero, List.set_cons_succ])
                refine wpAnyH_all (rs := [15]) (by kernel_rfl) (by simp) ?_
                refine AllReadyH.cons rfl (fun K hK => ?_) ?_
                · (have qs := q2 _ hP; have fs := f2 _ hP; go_simp; refine hK.out _ _ (by exact hHeld.setCell (.inl (by simp)) _) (fun _ => ?_); clear hK K qs fs)
                  (try simp only [Act.put, List.setIfInBounds_toArray, List.set_cons_zero, List.set_cons_succ])
                  refine wpAnyH_done (by kernel_rfl) ?_ _
                  (try simp only [Act.put, List.setIfInBounds_toArray, List.set_cons_zero, List.set_cons_succ])
                  have hne7 : (Value.slice A7 (bs'.length + 1) c7).ownBlock ≠ some g := fun e => by have := (O13.lt g e).1; omega
                  have hG8 := blk_set (hP.heap hg (by simp)) 1 (.slice A7 (bs'.length + 1) c7)
                  have hC8 := hHeld.setCell (p := ⟨g, 1, none⟩) (.inl (by simp)) (.slice A7 (bs'.length + 1) c7)
                  have O8 := own_set O13 g 1 (.slice A7 (bs'.length + 1) c7) hne7
                  generalize hW : World.setCell _ _ _ = W8
                  rw [hW] at hG8 hC8 O8
                  have c2 : W8.cell? ⟨g, 2, none⟩ = some (.int .i64 (t + k)) := by simp [World.cell?, hG8]
                  have f3 : W8.frozen? ⟨g, 2, none⟩ = false := by simp [World.frozen?, hG8]
                  have hR9 : ∀ W9, W9 = W8.setCell ⟨g, 2, none⟩ (.int .i64 (t + k + 1)) → (∃ q', RWin W9 g q' m (t + k + 1) (bs' ++ [x]) ∧ ∀ x, q' = some x → w.heap.size ≤ x) ∧ Chg [g] w W9 := fun W9 e => by
                    have hC9 := (Chg.refl [g] W8).setCell (p := ⟨g, 2, none⟩) (.inl (by simp)) (.int .i64 (t + k + 1))
                    rw [← e] at hC9
                    refine ⟨⟨(Value.slice A7 (bs'.length + 1) c7).ownBlock, ⟨A7, c7, ?_, ?_, ?_, ?_⟩, fun x hx => Nat.le_trans hwz.out (O8.lt x hx).1⟩, (hC.trans hC8).trans hC9⟩
                    · rw [e, blk_set hG8 2, List.length_append]; rfl
                    · have := (own_sl O8).chg hC9 (fun _ q hq hm => by simp at hm; subst hm; exact hne7 hq)
                      rw [List.length_append, cellsOf_append]; exact this
                    · rw [List.length_append]; rfl
                    · intro x hx; exact ⟨Nat.lt_of_lt_of_le (O8.lt x hx).2 hC9.size, fun e => hne7 (by rw [hx, e])⟩
                  have hlast : lastN m.toNat (bs' ++ [x]) = lastN m.toNat (bs ++ ys.take (k + 1)) := by
                    have e1 : ys.take (k + 1) = ys.take k ++ [x] := by rw [List.take_add_one, hx]; rfl
                    rw [hbs.out, lastN_append, e1, List.append_assoc]
                  replace hR9 := Lib.hid hR9
                  replace hlast := Lib.hid hlast
                  clear hW O8 O13 hG8 hP hHeld hne7 hC hC8 q2 q3 f2 q1 hx hcx hg hS0 hq1 hwz
                  go_wp2_with fail
                  generalize hW : World.setCell _ _ _ = W9
                  obtain ⟨⟨q9, hR, hq9⟩, hC⟩ := hR9.out W9 (by rw [← hW]; try simp only [Int.add_assoc])
                  clear hR9 hW
                  refine (trim_any _ g q9 m _ _ hR h1 h2 (by simp; omega)).mono ?_
                  rintro e w10 ⟨rfl, q10, hR10, hq10, hC10⟩
                  have hq11 : Hid (∀ x, q10 = some x → q = some x ∨ w.heap.size ≤ x) := fun x hx => .inr ((hq10 x hx).elim (hq9 x) (fun h => Nat.le_trans hC.size h))
                  rw [hlast.out] at hR10
                  have hR11 := Lib.hid hR10
                  have hC11 := Lib.hid (hC.trans hC10)
                  clear hR hC hR10 hC10 hq9 hq10
                  go_wp2
                  go_roundw
                  case rel => exact ⟨k + 1, by omega, by go_num, ⟨q10, by have := hR11.out; simpa [Int.add_assoc] using this, hq11.out⟩, hC11.out⟩
                  case measure => simp [intOf]; omega
                exact AllReadyH.nil
              exact AllReadyH.nil
            exact AllReadyH.nil
          exact AllReadyH.nil
        refine AllReadyH.cons rfl (fun K hK => ?_) ?_
        · (go_simp; refine hK.out _ _ (by exact hHeld.alloc _) (fun hH1 => ?_); clear hK K; generalize hW : World.alloc _ _ = W1; rw [hW] at hH1; clear hHeld; have hHeld := hH1; clear hH1; have S11 := sl_of_eq hW; have hD := chg_of_eq hW; have hP := hP.trans hD; have hz11 := Lib.hid (size_of_eq hW); (try replace O6 := own_chg O6 hD (by simp)); (try replace O12 := own_chg O12 hD (by simp)); clear hW hD)
          (try simp only [Act.put, List.setIfInBounds_toArray, List.set_cons_zero, List.set_cons_succ])
          refine wpAnyH_all (rs := [1]) (by kernel_rfl) (by simp) ?_
          refine AllReadyH.cons rfl (fun K hK => ?_) ?_
          · (go_simp; refine hK.out _ _ (by exact hHeld.alloc _) (fun hH1 => ?_); clear hK K; generalize hW : World.alloc _ _ = W1; rw [hW] at hH1; clear hHeld; have hHeld := hH1; clear hH1; have O6 := own_of_eq hW hP.size; have hD := chg_of_eq hW; have hP := hP.trans hD; have hz1 := Lib.hid (size_of_eq hW); (try replace S11 := S11.chg hD (by simp)); clear hW hD)
            (try simp only [Act.put, List.setIfInBounds_toArray, List.set_cons_zero, List.set_cons_succ])
            refine wpAnyH_all (rs := [6]) (by kernel_rfl) (by simp) ?_
            refine AllReadyH.cons rfl (fun K hK => ?_) ?_
            · (refine step_append_sl rfl (.tmp 12) (.tmp 16) 22 rfl wr.heap.size 5 (.int .u8 0) 1 1 Try.underlying22 Try.info_u8 rfl (by decide) _ 0 [] O6 rfl _ _ _ (hS0.out.chg hP (by simp)) rfl cellsOf_one bs'.length (by omega) (by omega) (by decide) hP.size ?_; intro A6 c6 w6 O12 hch hat; clear hat; have hP := hP.then hch (fun x hx => .inr (O6.lt x (by simpa using hx)).1); have hHeld := hP.mono (S1 := [g]) (by simp); (try replace S11 := S11.chg hch (fun _ q hq hm => by simp [Value.ownBlock] at hq hm; first | (have z := hz1.out; omega) | (have z := hz11.out; omega))); refine hK.out _ _ (by exact hHeld) (fun _ => ?_); clear hK K hch O6)
              (try simp only [Act.put, List.setIfInBounds_toArray, List.set_cons_zero, List.set_cons_succ])
              refine wpAnyH_all (rs := [12]) (by kernel_rfl) (by simp) ?_
              refine AllReadyH.cons rfl (fun K hK => ?_) ?_
              · (refine step_append_sl rfl (.tmp 17) (.tmp 22) 22 rfl wr.heap.size 5 (.int .u8 0) 1 1 Try.underlying22 Try.info_u8 rfl (by decide) _ _ _ O12 rfl _ _ _ S11 rfl cellsOf_one (bs'.length + 1) rfl (by omega) (by decide) hP.size ?_; intro A7 c7 w7 O13 hch hat; clear hat; have hP := hP.then hch (fun x hx => .inr (O12.lt x (by simpa using hx)).1); have hHeld := hP.mono (S1 := [g]) (by simp); refine hK.out _ _ (by exact hHeld) (fun _ => ?_); clear hK K hch O12 S11)
                (try simp only [Act.put, List.setIfInBounds_toArray, List.set_cons_zero, List.set_cons_succ])
                refine wpAnyH_take (i := 13) (v := ?_) rfl (by kernel_rfl) (by kernel_rfl) (by kernel_rfl) (fun _ _ _ h => h) (Or.inl ⟨by kernel_rfl, ?_⟩) (by exact hHeld) ?_
                rotate_left
                · (intro w hSw; clear hSw; go_simp; try with_reducible rfl)
                change wpAnyH _ _ _ _ _ _ _ (Act.put _ (some 24) _) _
                (try simp only [Act.put, List.setIfInBounds_toArray, List.set_cons_zero, List.set_cons_succ])
                refine wpAnyH_take (i := 14) (v := ?_) rfl (by kernel_rfl) (by kernel_rfl) (by kernel_rfl) (fun _ _ _ h => h) (Or.inl ⟨by kernel_rfl, ?_⟩) (by exact hHeld) ?_
                rotate_left
                · (intro w hSw; clear hSw; go_simp; try with_reducible rfl)
                change wpAnyH _ _ _ _ _ _ _ (Act.put _ (some 25) _) _
                (try simp only [Act.put, List.setIfInBounds_toArray, List.set_cons_zero, List.set_cons_succ])
                refine wpAnyH_all (rs := [15]) (by kernel_rfl) (by simp) ?_
                refine AllReadyH.cons rfl (fun K hK => ?_) ?_
                · (have qs := q2 _ hP; have fs := f2 _ hP; go_simp; refine hK.out _ _ (by exact hHeld.setCell (.inl (by simp)) _) (fun _ => ?_); clear hK K qs fs)
                  (try simp only [Act.put, List.setIfInBounds_toArray, List.set_cons_zero, List.set_cons_succ])
                  refine wpAnyH_done (by kernel_rfl) ?_ _
                  (try simp only [Act.put, List.setIfInBounds_toArray, List.set_cons_zero, List.set_cons_succ])
                  have hne7 : (Value.slice A7 (bs'.length + 1) c7).ownBlock ≠ some g := fun e => by have := (O13.lt g e).1; omega
                  have hG8 := blk_set (hP.heap hg (by simp)) 1 (.slice A7 (bs'.length + 1) c7)
                  have hC8 := hHeld.setCell (p := ⟨g, 1, none⟩) (.inl (by simp)) (.slice A7 (bs'.length + 1) c7)
                  have O8 := own_set O13 g 1 (.slice A7 (bs'.length + 1) c7) hne7
                  generalize hW : World.setCell _ _ _ = W8
                  rw [hW] at hG8 hC8 O8
                  have c2 : W8.cell? ⟨g, 2, none⟩ = some (.int .i64 (t + k)) := by simp [World.cell?, hG8]
                  have f3 : W8.frozen? ⟨g, 2, none⟩ = false := by simp [World.frozen?, hG8]
                  have hR9 : ∀ W9, W9 = W8.setCell ⟨g, 2, none⟩ (.int .i64 (t + k + 1)) → (∃ q', RWin W9 g q' m (t + k + 1) (bs' ++ [x]) ∧ ∀ x, q' = some x → w.heap.size ≤ x) ∧ Chg [g] w W9 := fun W9 e => by
                    have hC9 := (Chg.refl [g] W8).setCell (p := ⟨g, 2, none⟩) (.inl (by simp)) (.int .i64 (t + k + 1))
                    rw [← e] at hC9
                    refine ⟨⟨(Value.slice A7 (bs'.length + 1) c7).ownBlock, ⟨A7, c7, ?_, ?_, ?_, ?_⟩, fun x hx => Nat.le_trans hwz.out (O8.lt x hx).1⟩, (hC.trans hC8).trans hC9⟩
                    · rw [e, blk_set hG8 2, List.length_append]; rfl
                    · have := (own_sl O8).chg hC9 (fun _ q hq hm => by simp at hm; subst hm; exact hne7 hq)
                      rw [List.length_append, cellsOf_append]; exact this
                    · rw [List.length_append]; rfl
                    · intro x hx; exact ⟨Nat.lt_of_lt_of_le (O8.lt x hx).2 hC9.size, fun e => hne7 (by rw [hx, e])⟩
                  have hlast : lastN m.toNat (bs' ++ [x]) = lastN m.toNat (bs ++ ys.take (k + 1)) := by
                    have e1 : ys.take (k + 1) = ys.take k ++ [x] := by rw [List.take_add_one, hx]; rfl
                    rw [hbs.out, lastN_append, e1, List.append_assoc]
                  replace hR9 := Lib.hid hR9
                  replace hlast := Lib.hid hlast
                  clear hW O8 O13 hG8 hP hHeld hne7 hC hC8 q2 q3 f2 q1 hx hcx hg hS0 hq1 hwz
                  go_wp2_with fail
                  generalize hW : World.setCell _ _ _ = W9
                  obtain ⟨⟨q9, hR, hq9⟩, hC⟩ := hR9.out W9 (by rw [← hW]; try simp only [Int.add_assoc])
                  clear hR9 hW
                  refine (trim_any _ g q9 m _ _ hR h1 h2 (by simp; omega)).mono ?_
                  rintro e w10 ⟨rfl, q10, hR10, hq10, hC10⟩
                  have hq11 : Hid (∀ x, q10 = some x → q = some x ∨ w.heap.size ≤ x) := fun x hx => .inr ((hq10 x hx).elim (hq9 x) (fun h => Nat.le_trans hC.size h))
                  rw [hlast.out] at hR10
                  have hR11 := Lib.hid hR10
                  have hC11 := Lib.hid (hC.trans hC10)
                  clear hR hC hR10 hC10 hq9 hq10
                  go_wp2
                  go_roundw
                  case rel => exact ⟨k + 1, by omega, by go_num, ⟨q10, by have := hR11.out; simpa [Int.add_assoc] using this, hq11.out⟩, hC11.out⟩
                  case measure => simp [intOf]; omega
                exact AllReadyH.nil
              exact AllReadyH.nil
            exact AllReadyH.nil
          exact AllReadyH.nil
        exact AllReadyH.nil
      refine AllReadyH.cons rfl (fun K hK => ?_) ?_
      · (go_simp; refine hK.out _ _ (by exact hHeld.alloc _) (fun hH1 => ?_); clear hK K; generalize hW : World.alloc _ _ = W1; rw [hW] at hH1; clear hHeld; have hHeld := hH1; clear hH1; have S11 := sl_of_eq hW; have hD := chg_of_eq hW; have hP := hP.trans hD; have hz11 := Lib.hid (size_of_eq hW); (try replace O6 := own_chg O6 hD (by simp)); (try replace O12 := own_chg O12 hD (by simp)); clear hW hD)
        (try simp only [Act.put, List.setIfInBounds_toArray, List.set_cons_zero, List.set_cons_succ])
        refine wpAnyH_all (rs := [1, 5]) (by kernel_rfl) (by simp) ?_
        refine AllReadyH.cons rfl (fun K hK => ?_) ?_
        · (go_simp; refine hK.out _ _ (by exact hHeld.alloc _) (fun hH1 => ?_); clear hK K; generalize hW : World.alloc _ _ = W1; rw [hW] at hH1; clear hHeld; have hHeld := hH1; clear hH1; have O6 := own_of_eq hW hP.size; have hD := chg_of_eq hW; have hP := hP.trans hD; have hz1 := Lib.hid (size_of_eq hW); (try replace S11 := S11.chg hD (by simp)); clear hW hD)
          (try simp only [Act.put, List.setIfInBounds_toArray, List.set_cons_zero, List.set_cons_succ])
          refine wpAnyH_all (rs := [5]) (by kernel_rfl) (by simp) ?_
          refine AllReadyH.cons rfl (fun K hK => ?_) ?_
          · (have qB := q2 _ hP; go_simp; refine hK.out _ _ (by exact hHeld) (fun hHeld => ?_); clear hK K qB)
            (try simp only [Act.put, List.setIfInBounds_toArray, List.set_cons_zero, List.set_cons_succ])
            refine wpAnyH_all (rs := [6]) (by kernel_rfl) (by simp) ?_
            refine AllReadyH.cons rfl (fun K hK => ?_) ?_
            · (refine step_append_sl rfl (.tmp 12) (.tmp 16) 22 rfl wr.heap.size 5 (.int .u8 0) 1 1 Try.underlying22 Try.info_u8 rfl (by decide) _ 0 [] O6 rfl _ _ _ (hS0.out.chg hP (by simp)) rfl cellsOf_one bs'.length (by omega) (by omega) (by decide) hP.size ?_; intro A6 c6 w6 O12 hch hat; clear hat; have hP := hP.then hch (fun x hx => .inr (O6.lt x (by simpa using hx)).1); have hHeld := hP.mono (S1 := [g]) (by simp); (try replace S11 := S11.chg hch (fun _ q hq hm => by simp [Value.ownBlock] at hq hm; first | (have z := hz1.out; omega) | (have z := hz11.out; omega))); refine hK.out _ _ (by exact hHeld) (fun _ => ?_); clear hK K hch O6)
              (try simp only [Act.put, List.setIfInBounds_toArray, List.set_cons_zero, List.set_cons_succ])
              refine wpAnyH_all (rs := [12]) (by kernel_rfl) (by simp) ?_
              refine AllReadyH.cons rfl (fun K hK => ?_) ?_
              · (refine step_append_sl rfl (.tmp 17) (.tmp 22) 22 rfl wr.heap.size 5 (.int .u8 0) 1 1 Try.underlying22 Try.info_u8 rfl (by decide) _ _ _ O12 rfl _ _ _ S11 rfl cellsOf_one (bs'.length + 1) rfl (by omega) (by decide) hP.size ?_; intro A7 c7 w7 O13 hch hat; clear hat; have hP := hP.then hch (fun x hx => .inr (O12.lt x (by simpa using hx)).1); have hHeld := hP.mono (S1 := [g]) (by simp); refine hK.out _ _ (by exact hHeld) (fun _ => ?_); clear hK K hch O12 S11)
                (try simp only [Act.put, List.setIfInBounds_toArray, List.set_cons_zero, List.set_cons_succ])
                refine wpAnyH_take (i := 13) (v := ?_) rfl (by kernel_rfl) (by kernel_rfl) (by kernel_rfl) (fun _ _ _ h => h) (Or.inl ⟨by kernel_rfl, ?_⟩) (by exact hHeld) ?_
                rotate_left
                · (intro w hSw; clear hSw; go_simp; try with_reducible rfl)
                change wpAnyH _ _ _ _ _ _ _ (Act.put _ (some 24) _) _
                (try simp only [Act.put, List.setIfInBounds_toArray, List.set_cons_zero, List.set_cons_succ])
                refine wpAnyH_take (i := 14) (v := ?_) rfl (by kernel_rfl) (by kernel_rfl) (by kernel_rfl) (fun _ _ _ h => h) (Or.inl ⟨by kernel_rfl, ?_⟩) (by exact hHeld) ?_
                rotate_left
                · (intro w hSw; clear hSw; go_simp; try with_reducible rfl)
                change wpAnyH _ _ _ _ _ _ _ (Act.put _ (some 25) _) _
                (try simp only [Act.put, List.setIfInBounds_toArray, List.set_cons_zero, List.set_cons_succ])
                refine wpAnyH_all (rs := [15]) (by kernel_rfl) (by simp) ?_
                refine AllReadyH.cons rfl (fun K hK => ?_) ?_
                · (have qs := q2 _ hP; have fs := f2 _ hP; go_simp; refine hK.out _ _ (by exact hHeld.setCell (.inl (by simp)) _) (fun _ => ?_); clear hK K qs fs)
                  (try simp only [Act.put, List.setIfInBounds_toArray, List.set_cons_zero, List.set_cons_succ])
                  refine wpAnyH_done (by kernel_rfl) ?_ _
                  (try simp only [Act.put, List.setIfInBounds_toArray, List.set_cons_zero, List.set_cons_succ])
                  have hne7 : (Value.slice A7 (bs'.length + 1) c7).ownBlock ≠ some g := fun e => by have := (O13.lt g e).1; omega
                  have hG8 := blk_set (hP.heap hg (by simp)) 1 (.slice A7 (bs'.length + 1) c7)
                  have hC8 := hHeld.setCell (p := ⟨g, 1, none⟩) (.inl (by simp)) (.slice A7 (bs'.length + 1) c7)
                  have O8 := own_set O13 g 1 (.slice A7 (bs'.length + 1) c7) hne7
                  generalize hW : World.setCell _ _ _ = W8
                  rw [hW] at hG8 hC8 O8
                  have c2 : W8.cell? ⟨g, 2, none⟩ = some (.int .i64 (t + k)) := by simp [World.cell?, hG8]
                  have f3 : W8.frozen? ⟨g, 2, none⟩ = false := by simp [World.frozen?, hG8]
                  have hR9 : ∀ W9, W9 = W8.setCell ⟨g, 2, none⟩ (.int .i64 (t + k + 1)) → (∃ q', RWin W9 g q' m (t + k + 1) (bs' ++ [x]) ∧ ∀ x, q' = some x → w.heap.size ≤ x) ∧ Chg [g] w W9 := fun W9 e => by
                    have hC9 := (Chg.refl [g] W8).setCell (p := ⟨g, 2, none⟩) (.inl (by simp)) (.int .i64 (t + k + 1))
                    rw [← e] at hC9
                    refine ⟨⟨(Value.slice A7 (bs'.length + 1) c7).ownBlock, ⟨A7, c7, ?_, ?_, ?_, ?_⟩, fun x hx => Nat.le_trans hwz.out (O8.lt x hx).1⟩, (hC.trans hC8).trans hC9⟩
                    · rw [e, blk_set hG8 2, List.length_append]; rfl
                    · have := (own_sl O8).chg hC9 (fun _ q hq hm => by simp at hm; subst hm; exact hne7 hq)
                      rw [List.length_append, cellsOf_append]; exact this
                    · rw [List.length_append]; rfl
                    · intro x hx; exact ⟨Nat.lt_of_lt_of_le (O8.lt x hx).2 hC9.size, fun e => hne7 (by rw [hx, e])⟩
                  have hlast : lastN m.toNat (bs' ++ [x]) = lastN m.toNat (bs ++ ys.take (k + 1)) := by
                    have e1 : ys.take (k + 1) = ys.take k ++ [x] := by rw [List.take_add_one, hx]; rfl
                    rw [hbs.out, lastN_append, e1, List.append_assoc]
                  replace hR9 := Lib.hid hR9
                  replace hlast := Lib.hid hlast
                  clear hW O8 O13 hG8 hP hHeld hne7 hC hC8 q2 q3 f2 q1 hx hcx hg hS0 hq1 hwz
                  go_wp2_with fail
                  generalize hW : World.setCell _ _ _ = W9
                  obtain ⟨⟨q9, hR, hq9⟩, hC⟩ := hR9.out W9 (by rw [← hW]; try simp only [Int.add_assoc])
                  clear hR9 hW
                  refine (trim_any _ g q9 m _ _ hR h1 h2 (by simp; omega)).mono ?_
                  rintro e w10 ⟨rfl, q10, hR10, hq10, hC10⟩
                  have hq11 : Hid (∀ x, q10 = some x → q = some x ∨ w.heap.size ≤ x) := fun x hx => .inr ((hq10 x hx).elim (hq9 x) (fun h => Nat.le_trans hC.size h))
                  rw [hlast.out] at hR10
                  have hR11 := Lib.hid hR10
                  have hC11 := Lib.hid (hC.trans hC10)
                  clear hR hC hR10 hC10 hq9 hq10
                  go_wp2
                  go_roundw
                  case rel => exact ⟨k + 1, by omega, by go_num, ⟨q10, by have := hR11.out; simpa [Int.add_assoc] using this, hq11.out⟩, hC11.out⟩
                  case measure => simp [intOf]; omega
                exact AllReadyH.nil
              exact AllReadyH.nil
            exact AllReadyH.nil
          exact AllReadyH.nil
        refine AllReadyH.cons rfl (fun K hK => ?_) ?_
        · (have qB := q2 _ hP; go_simp; refine hK.out _ _ (by exact hHeld) (fun hHeld => ?_); clear hK K qB)
          (try simp only [Act.put, List.setIfInBounds_toArray, List.set_cons_zero, List.set_cons_succ])
          refine wpAnyH_all (rs := [1]) (by kernel_rfl) (by simp) ?_
          refine AllReadyH.cons rfl (fun K hK => ?_) ?_
          · (go_simp; refine hK.out _ _ (by exact hHeld.alloc _) (fun hH1 => ?_); clear hK K; generalize hW : World.alloc _ _ = W1; rw [hW] at hH1; clear hHeld; have hHeld := hH1; clear hH1; have O6 := own_of_eq hW hP.size; have hD := chg_of_eq hW; have hP := hP.trans hD; have hz1 := Lib.hid (size_of_eq hW); (try replace S11 := S11.chg hD (by simp)); clear hW hD)
            (try simp only [Act.put, List.setIfInBounds_toArray, List.set_cons_zero, List.set_cons_succ])
            refine wpAnyH_all (rs := [6]) (by kernel_rfl) (by simp) ?_
            refine AllReadyH.cons rfl (fun K hK => ?_) ?_
            · (refine step_append_sl rfl (.tmp 12) (.tmp 16) 22 rfl wr.heap.size 5 (.int .u8 0) 1 1 Try.underlying22 Try.info_u8 rfl (by decide) _ 0 [] O6 rfl _ _ _ (hS0.out.chg hP (by simp)) rfl cellsOf_one bs'.length (by omega) (by omega) (by decide) hP.size ?_; intro A6 c6 w6 O12 hch hat; clear hat; have hP := hP.then hch (fun x hx => .inr (O6.lt x (by simpa using hx)).1); have hHeld := hP.mono (S1 := [g]) (by simp); (try replace S11 := S11.chg hch (fun _ q hq hm => by simp [Value.ownBlock] at hq hm; first | (have z := hz1.out; omega) | (have z := hz11.out; omega))); refine hK.out _ _ (by exact hHeld) (fun _ => ?_); clear hK K hch O6)
              (try simp only [Act.put, List.setIfInBounds_toArray, List.set_cons_zero, List.set_cons_succ])
              refine wpAnyH_all (rs := [12]) (by kernel_rfl) (by simp) ?_
              refine AllReadyH.cons rfl (fun K hK => ?_) ?_
              · (refine step_append_sl rfl (.tmp 17) (.tmp 22) 22 rfl wr.heap.size 5 (.int .u8 0) 1 1 Try.underlying22 Try.info_u8 rfl (by decide) _ _ _ O12 rfl _ _ _ S11 rfl cellsOf_one (bs'.length + 1) rfl (by omega) (by decide) hP.size ?_; intro A7 c7 w7 O13 hch hat; clear hat; have hP := hP.then hch (fun x hx => .inr (O12.lt x (by simpa using hx)).1); have hHeld := hP.mono (S1 := [g]) (by simp); refine hK.out _ _ (by exact hHeld) (fun _ => ?_); clear hK K hch O12 S11)
                (try simp only [Act.put, List.setIfInBounds_toArray, List.set_cons_zero, List.set_cons_succ])
                refine wpAnyH_take (i := 13) (v := ?_) rfl (by kernel_rfl) (by kernel_rfl) (by kernel_rfl) (fun _ _ _ h => h) (Or.inl ⟨by kernel_rfl, ?_⟩) (by exact hHeld) ?_
                rotate_left
                · (intro w hSw; clear hSw; go_simp; try with_reducible rfl)
                change wpAnyH _ _ _ _ _ _ _ (Act.put _ (some 24) _) _
                (try simp only [Act.put, List.setIfInBounds_toArray, List.set_cons_zero, List.set_cons_succ])
                refine wpAnyH_take (i := 14) (v := ?_) rfl (by kernel_rfl) (by kernel_rfl) (by kernel_rfl) (fun _ _ _ h => h) (Or.inl ⟨by kernel_rfl, ?_⟩) (by exact hHeld) ?_
                rotate_left
                · (intro w hSw; clear hSw; go_simp; try with_reducible rfl)
                change wpAnyH _ _ _ _ _ _ _ (Act.put _ (some 25) _) _
                (try simp only [Act.put, List.setIfInBounds_toArray, List.set_cons_zero, List.set_cons_succ])
                refine wpAnyH_all (rs := [15]) (by kernel_rfl) (by simp) ?_
                refine AllReadyH.cons rfl (fun K hK => ?_) ?_
                · (have qs := q2 _ hP; have fs := f2 _ hP; go_simp; refine hK.out _ _ (by exact hHeld.setCell (.inl (by simp)) _) (fun _ => ?_); clear hK K qs fs)
                  (try simp only [Act.put, List.setIfInBounds_toArray, List.set_cons_zero, List.set_cons_succ])
                  refine wpAnyH_done (by kernel_rfl) ?_ _
                  (try simp only [Act.put, List.setIfInBounds_toArray, List.set_cons_zero, List.set_cons_succ])
                  have hne7 : (Value.slice A7 (bs'.length + 1) c7).ownBlock ≠ some g := fun e => by have := (O13.lt g e).1; omega
                  have hG8 := blk_set (hP.heap hg (by simp)) 1 (.slice A7 (bs'.length + 1) c7)
                  have hC8 := hHeld.setCell (p := ⟨g, 1, none⟩) (.inl (by simp)) (.slice A7 (bs'.length + 1) c7)
                  have O8 := own_set O13 g 1 (.slice A7 (bs'.length + 1) c7) hne7
                  generalize hW : World.setCell _ _ _ = W8
                  rw [hW] at hG8 hC8 O8
                  have c2 : W8.cell? ⟨g, 2, none⟩ = some (.int .i64 (t + k)) := by simp [World.cell?, hG8]
                  have f3 : W8.frozen? ⟨g, 2, none⟩ = false := by simp [World.frozen?, hG8]
                  have hR9 : ∀ W9, W9 = W8.setCell ⟨g, 2, none⟩ (.int .i64 (t + k + 1)) → (∃ q', RWin W9 g q' m (t + k + 1) (bs' ++ [x]) ∧ ∀ x, q' = some x → w.heap.size ≤ x) ∧ Chg [g] w W9 := fun W9 e => by
                    have hC9 := (Chg.refl [g] W8).setCell (p := ⟨g, 2, none⟩) (.inl (by simp)) (.int .i64 (t + k + 1))
                    rw [← e] at hC9
                    refine ⟨⟨(Value.slice A7 (bs'.length + 1) c7).ownBlock, ⟨A7, c7, ?_, ?_, ?_, ?_⟩, fun x hx => Nat.le_trans hwz.out (O8.lt x hx).1⟩, (hC.trans hC8).trans hC9⟩
                    · rw [e, blk_set hG8 2, List.length_append]; rfl
                    · have := (own_sl O8).chg hC9 (fun _ q hq hm => by simp at hm; subst hm; exact hne7 hq)
                      rw [List.length_append, cellsOf_append]; exact this
                    · rw [List.length_append]; rfl
                    · intro x hx; exact ⟨Nat.lt_of_lt_of_le (O8.lt x hx).2 hC9.size, fun e => hne7 (by rw [hx, e])⟩
                  have hlast : lastN m.toNat (bs' ++ [x]) = lastN m.toNat (bs ++ ys.take (k + 1)) := by
                    have e1 : ys.take (k + 1) = ys.take k ++ [x] := by rw [List.take_add_one, hx]; rfl
                    rw [hbs.out, lastN_append, e1, List.append_assoc]
                  replace hR9 := Lib.hid hR9
                  replace hlast := Lib.hid hlast
                  clear hW O8 O13 hG8 hP hHeld hne7 hC hC8 q2 q3 f2 q1 hx hcx hg hS0 hq1 hwz
                  go_wp2_with fail
                  generalize hW : World.setCell _ _ _ = W9
                  obtain ⟨⟨q9, hR, hq9⟩, hC⟩ := hR9.out W9 (by rw [← hW]; try simp only [Int.add_assoc])
                  clear hR9 hW
                  refine (trim_any _ g q9 m _ _ hR h1 h2 (by simp; omega)).mono ?_
                  rintro e w10 ⟨rfl, q10, hR10, hq10, hC10⟩
                  have hq11 : Hid (∀ x, q10 = some x → q = some x ∨ w.heap.size ≤ x) := fun x hx => .inr ((hq10 x hx).elim (hq9 x) (fun h => Nat.le_trans hC.size h))
                  rw [hlast.out] at hR10
                  have hR11 := Lib.hid hR10
                  have hC11 := Lib.hid (hC.trans hC10)
                  clear hR hC hR10 hC10 hq9 hq10
                  go_wp2
                  go_roundw
                  case rel => exact ⟨k + 1, by omega, by go_num, ⟨q10, by have := hR11.out; simpa [Int.add_assoc] using this, hq11.out⟩, hC11.out⟩
                  case measure => simp [intOf]; omega
                exact AllReadyH.nil
              exact AllReadyH.nil
            exact AllReadyH.nil
          exact AllReadyH.nil
        exact AllReadyH.nil
      exact AllReadyH.nil
    · obtain rfl : k = n := by omega
      go_wp2
      go_end0
      exact ⟨rfl, q1, by rw [List.take_of_length_le (by omega)] at hR; exact hR, hq1, hC⟩
end Go.Proofs.Ytjfbbobaghdocaa
