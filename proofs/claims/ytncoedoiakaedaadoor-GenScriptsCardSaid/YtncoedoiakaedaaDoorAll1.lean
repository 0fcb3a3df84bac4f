/- The iterator that package turn's All hands back, for whatever body keeps what it is asked to keep. Conditions: as it states. -/
import Derived.RangeFuncNested
import Derived.RangeFuncBound
import Derived.RangeFuncCalls
import Derived.RangeFuncLeaves
import Derived.Shelf.Abstract
import Derived.Shelf.RegionOpen
import Derived.WalkKit
import Derived.OwnWalkIn
import Derived.TacticsInMore
import Derived.LoopNIn
import Derived.LoopIn
import Derived.Test.YtncoedoiakaedaaDoorRight
set_option linter.unusedVariables false
set_option linter.unusedSimpArgs false
namespace Go.Proofs.YtncoedoiakaedaaDoor
open Go.RowKit Go.Shelf Turn Tl
attribute [local go_sem] Oper.semAt_some
namespace Ev_
/-- Whatever lay outside of `S` lies as it lay. -/
structure ChgP (S : Nat → Prop) (w w' : World) : Prop where
  os : w'.os = w.os
  tape : w'.tape = w.tape
  output : w'.output = w.output
  size : w.heap.size ≤ w'.heap.size
  block : ∀ k, k < w.heap.size → ¬ S k → w'.heap[k]? = w.heap[k]?
theorem ChgP.of {L : List Nat} {S : Nat → Prop} {w w' : World} (h : Chg L w w') (hL : ∀ k ∈ L, S k ∨ w.heap.size ≤ k) : ChgP S w w' :=
  ⟨h.os, h.tape, h.output, h.size, fun k hk hn => h.block k hk (fun hm => by rcases hL k hm with h1 | h1; exact hn h1; omega)⟩
theorem ChgP.cell {S : Nat → Prop} {a b : World} (h : ChgP S a b) {p : Addr} {v : Value} (hc : a.cell? p = some v) (hn : ¬ S p.block) : b.cell? p = some v := by
  have hlt := World.block_lt_of_cell? a _ hc
  unfold World.cell? at hc ⊢
  rw [h.block _ hlt hn]
  exact hc
theorem ChgP.sl {S : Nat → Prop} {w w' : World} {size : Nat} {v : Value} {n : Nat} {xs : List Value} (h : Sl w size v n xs) (hc : ChgP S w w') (hn : 0 < xs.length → ∀ k, v.ownBlock = some k → ¬ S k) : Sl w' size v n xs := by
  obtain ⟨A, c, rfl, h0, h1, h2, h3, h4⟩ := h
  refine ⟨A, c, rfl, h0, h1, h2, h3, fun hx => ?_⟩
  obtain ⟨ad, rfl, hr⟩ := h4 hx
  refine ⟨ad, rfl, fun j u hu => hc.cell (hr j u hu) ?_⟩
  have : (ad.add j).block = ad.block := by unfold Addr.add; split <;> rfl
  rw [this]; exact hn hx _ rfl
/-- Bytes that lie between two marks. -/
def DataAt (W : World) (lo hi : Nat) (x : List UInt8) (v : Value) : Prop := ∃ A c, v = .slice A x.length c ∧ Sl W 1 v x.length (cellsOf .u8 (ns x)) ∧ ∀ k, v.ownBlock = some k → lo ≤ k ∧ k < hi
theorem DataAt.nil (W : World) (lo hi : Nat) : DataAt W lo hi [] (.slice none 0 0) := ⟨none, 0, rfl, Sl.nil _ _, fun k h => by simp [Value.ownBlock] at h⟩
/-- A turn that a round is handed. -/
structure TurnAt (av : Nat → Prop) (W : World) (x : Tn) (vo vi : Value) : Prop where
  o : ∃ A c, vo = .slice A x.1.length c
  i : ∃ A c, vi = .slice A x.2.length c
  so : Sl W 1 vo x.1.length (cellsOf .u8 (ns x.1))
  si : Sl W 1 vi x.2.length (cellsOf .u8 (ns x.2))
  ao : ∀ k, vo.ownBlock = some k → av k
  ai : ∀ k, vi.ownBlock = some k → av k
theorem DataAt.turn {W wr : World} {lo hi : Nat} {x : Tn} {vo vi : Value} {av : Nat → Prop} (ho : DataAt W lo hi x.1 vo) (hi' : DataAt W lo hi x.2 vi) (hw : ∀ k, lo ≤ k → k < hi → wr.heap[k]? = W.heap[k]?) (hs : W.heap.size ≤ wr.heap.size) (hav : ∀ k, lo ≤ k → k < hi → av k) : TurnAt av wr x vo vi := by
  have key : ∀ {v : Value} {y : List UInt8}, DataAt W lo hi y v → Sl wr 1 v y.length (cellsOf .u8 (ns y)) := by
    rintro v y ⟨A, c, rfl, h1, h2⟩
    refine h1.same (fun p u hc hp => ?_)
    have h3 := h2 p.block hp.symm
    unfold World.cell? at hc ⊢
    rw [hw _ h3.1 h3.2]
    exact hc
  obtain ⟨A, c, rfl, h1, h2⟩ := id ho
  obtain ⟨A', c', rfl, h3, h4⟩ := id hi'
  exact ⟨⟨A, c, rfl⟩, ⟨A', c', rfl⟩, key ho, key hi', fun k hk => hav k (h2 k hk).1 (h2 k hk).2, fun k hk => hav k (h4 k hk).1 (h4 k hk).2⟩
/-- What a caller's word must abide: the iterator's own steps. -/
def Abide {σ : Type} (J : (Nat → Prop) → σ → World → Prop) : Prop :=
  ∀ av av' s A B, J av s A → ChgP av A B → (∀ k, av' k → av k ∨ A.heap.size ≤ k) → (∀ k, av' k → k < B.heap.size) → J av' s B
theorem mstep_le {m : List Ev} {e : Ev} {B : Nat} (h : ∀ x ∈ m, x.2.length ≤ B) : ∀ x ∈ mstep m e, x.2.length ≤ B + e.2.length := by
  intro x hx
  unfold mstep at hx
  split at hx
  · have := h x hx; omega
  · split at hx
    · rcases List.mem_append.1 hx with hx | hx
      · have := h x hx; omega
      · simp at hx; subst hx; omega
    · rename_i k hk
      have hkm : k ∈ m := List.mem_of_getLast? hk
      split at hx
      · rcases List.mem_append.1 hx with hx | hx
        · have := h x ((List.dropLast_sublist m).subset hx); omega
        · simp at hx; subst hx; have := h k hkm; simp only [List.length_append]; omega
      · rcases List.mem_append.1 hx with hx | hx
        · have := h x hx; omega
        · simp at hx; subst hx; omega
theorem merge_le : ∀ (l m : List Ev) (B : Nat), (∀ x ∈ m, x.2.length ≤ B) → ∀ x ∈ l.foldl mstep m, x.2.length ≤ B + (l.map (fun e => e.2.length)).sum
  | [], m, B, h => by simpa using h
  | e :: l, m, B, h => by
    intro x hx
    rw [List.foldl_cons] at hx
    have := merge_le l (mstep m e) (B + e.2.length) (mstep_le h) x hx
    simp only [List.map_cons, List.sum_cons]
    omega
theorem mstep_len (m : List Ev) (e : Ev) : (mstep m e).length ≤ m.length + 1 := by
  unfold mstep
  split
  · omega
  · split
    · simp
    · split
      · simp
      · simp
theorem merge_len : ∀ (l m : List Ev), (l.foldl mstep m).length ≤ m.length + l.length
  | [], m => by simp
  | e :: l, m => by
    rw [List.foldl_cons]
    have h1 := merge_len l (mstep m e)
    have h2 := mstep_len m e
    simp only [List.length_cons]
    omega
theorem pstep_step {ms : List Ev} {i : Nat} {e : Ev} (h : ms[i]? = some e) : (ms.take (i + 1)).foldl pstep ([], ([], [])) = pstep ((ms.take i).foldl pstep ([], ([], []))) e := by
  rw [List.take_add_one, h, List.foldl_append]; rfl
def turnsI (evs : List EI) : List Tn := fin ((merge (sel evs)).foldl pstep ([], ([], [])))
theorem fin_pre : ∀ (l : List Ev) (s : List Tn × Tn), s.1 <+: fin (l.foldl pstep s)
  | [], s => by
    unfold fin
    rw [List.foldl_nil]
    split
    · exact List.prefix_refl _
    · exact List.prefix_append _ _
  | e :: l, s => by
    rw [List.foldl_cons]
    refine List.IsPrefix.trans ?_ (fin_pre l (pstep s e))
    unfold pstep
    split
    · exact List.prefix_refl _
    · split
      · exact List.prefix_refl _
      · exact List.prefix_append _ _
theorem fin_at {ms : List Ev} {i : Nat} {s : List Tn × Tn} (h : (ms.take i).foldl pstep ([], ([], [])) = s) : s.1 <+: fin (ms.foldl pstep ([], ([], []))) := by
  have e : ms.foldl pstep ([], ([], [])) = (ms.drop i).foldl pstep s := by rw [← h, ← List.foldl_append, List.take_append_drop]
  rw [e]
  exact fin_pre _ _
set_option maxRecDepth 100000 in
set_option maxHeartbeats 4000000 in
theorem all1_in (m l p n c : Nat) (evs : List EI) (A : Option Addr) (cells : List Value) (W : World) (J : (Nat → Prop) → List Tn → World → Prop) (hJ : Abide J) (hJl : ∀ av s A, J av s A → ∀ q, av q → q < A.heap.size)
    (hY : ∀ av s x W1 (q : Nat) vo vi, J av s W1 → TurnAt av W1 x vo vi → x.1.length ≤ 16777216 → x.2.length ≤ 16777216 → (s ++ [x]) <+: turnsI evs → YieldAt Fence.wide (m - 1) Tryd.prog l #[.int .i64 q, .agg #[vo, vi]] W1 fun e W' => e = .returned (.bool true) ∧ J av (s ++ [x]) W' ∧ ChgP (fun k => ¬ av k) W1 W')
    (hp : W.cell? ⟨p, 0, none⟩ = some (.slice A n c)) (hn : evs.length = n) (hn2 : n ≤ 65536) (ht : totI evs ≤ 16777216) (hS : Sl W 3 (.slice A n c) n cells) (hE : EvC W cells evs) (h0 : J (fun _ => False) [] W) :
    CallsIn Fence.wide m Tryd.prog 37 #[.func (.yield l) #[] #[], .pointer (some ⟨p, 0, none⟩)] W fun e W' => (∃ v, e = .returned v) ∧ ∃ av, J av (turnsI evs) W' := by
  have hplt : p < W.heap.size := World.block_lt_of_cell? W _ hp
  obtain ⟨bt, hbt⟩ : ∃ bt, W.heap.size = bt := ⟨_, rfl⟩
  obtain ⟨W1, hW1⟩ : ∃ W1, W.alloc (.cells #[.slice none 0 0, .slice none 0 0] 46 (0, 0)) = W1 := ⟨_, rfl⟩
  have hC1 : Chg [] W W1 := by rw [← hW1]; exact (Chg.refl [] W).alloc _
  have hz1 : W1.heap.size = bt + 1 := by rw [← hW1, size_alloc, hbt]
  have hb1 : W1.heap[bt]? = some (.cells #[.slice none 0 0, .slice none 0 0] 46 (0, 0)) := by rw [← hW1, ← hbt]; exact blk_new _ _
  have hp1 : W1.cell? ⟨p, 0, none⟩ = some (.slice A n c) := hC1.cell hp (by simp)
  have hrt := Lib.hid (right_any W1 evs A n c cells hn hn2 ht (hS.chg hC1 (by simp)) (hE.chg0 hC1))
  replace hY := Lib.hid hY
  replace h0 := Lib.hid h0
  replace hJ := Lib.hid hJ
  clear hS hE
  refine callsIn_of_wp Tryd.func37 rfl trivial ?_ rfl
  simp only [Tryd.ntmps37, List.size_toArray, List.length_cons, List.length_nil, Nat.reduceAdd, Nat.reduceSub, Array.replicate_succ, Array.replicate_zero, List.push_toArray, List.append_toArray, List.nil_append, List.cons_append]
  gi_wp2
  refine ⟨trivial, ⟨fun h => (by cases h), (callsIn_wide.2 hrt.out).mono ?_⟩⟩
  rintro e W2 ⟨A2, c2, cs2, rfl, hO2, hV2, hC2⟩
  obtain ⟨ms, hms⟩ : ∃ ms, merge (sel evs) = ms := ⟨_, rfl⟩
  rw [hms] at hO2 hV2 ⊢
  obtain ⟨k, hk⟩ : ∃ k, ms.length = k := ⟨_, rfl⟩
  rw [hk] at hO2 ⊢
  obtain ⟨hi, hhi⟩ : ∃ hi, W2.heap.size = hi := ⟨_, rfl⟩
  have hlohi : bt + 1 ≤ hi := by rw [← hhi, ← hz1]; exact hC2.size
  have hb2 : W2.heap[bt]? = some (.cells #[.slice none 0 0, .slice none 0 0] 46 (0, 0)) := hC2.heap hb1 (by simp)
  -- each event: its cells, and where its bytes lie
  have hev : ∀ (i : Nat) (e : Ev), ms[i]? = some e → ∃ g t v, A2 = some ⟨g, 0, none⟩ ∧ bt + 1 ≤ g ∧ g < hi ∧ W2.cell? ⟨g, i * 3, none⟩ = some (.int .i64 (dz e.1)) ∧ W2.cell? ⟨g, i * 3 + 1, none⟩ = some (.int .i64 t) ∧ W2.cell? ⟨g, i * 3 + 2, none⟩ = some v ∧ DataAt W2 (bt + 1) hi e.2 v := by
    intro i e he
    obtain ⟨g, rfl, hg⟩ := own_some hO2 (by have := (List.getElem?_eq_some_iff.1 he).1; omega)
    obtain ⟨t, A', c', h1, h2, h3, h4⟩ := hV2.2.1 i e he
    refine ⟨g, t, _, rfl, by omega, by have := own_lt' hO2 g rfl; omega, (own_cell hO2 h1).1, (own_cell hO2 h2).1, (own_cell hO2 h3).1, A', c', rfl, own_sl h4, fun q hq => ?_⟩
    have := own_lt' h4 q hq
    omega
  have hlen : ∀ e ∈ ms, e.2.length ≤ 16777216 := by
    intro e he
    rw [← hms] at he
    have h1 := merge_le (sel evs) [] 0 (by simp) e he
    have h2 := sel_tot evs
    omega
  have hkn : k ≤ n := by
    have h1 := merge_len (sel evs) []
    have h2 := sel_len evs
    have h3 : ((sel evs).foldl mstep []).length = k := by rw [← hk, ← hms]; rfl
    simp only [List.length_nil] at h1
    omega
  have hav0 : J (fun q => bt ≤ q ∧ q < hi) [] W2 := by
    refine hJ.out _ _ _ W W2 h0.out (ChgP.of (hC1.trans hC2) (by simp)) (fun q hq => .inr (by rw [hbt]; exact hq.1)) (fun q hq => by rw [hhi]; exact hq.2)
  replace hev := Lib.hid hev
  replace hlen := Lib.hid hlen
  replace hms := Lib.hid hms
  replace hk := Lib.hid hk
  replace hhi := Lib.hid hhi
  replace hav0 := Lib.hid hav0
  clear hO2 hV2 hC2 hC1 hW1 hb1 hp1 hrt hp ht hz1 h0 hplt hn
  gi_wp2
  gi_loopw [4, 6, 10] (fun v4 v6 v10 wr => ∃ (i : Nat) (acc : List Tn) (t : Tn) (vo vi : Value) (av : Nat → Prop), v10 = .int .i64 i ∧ v4 = .int .i64 acc.length ∧ i ≤ k ∧ acc.length ≤ i ∧
    Hid ((ms.take i).foldl pstep ([], ([], [])) = (acc, t)) ∧ Hid (wr.heap[bt]? = some (.cells #[vo, vi] 46 (0, 0))) ∧ Hid (DataAt W2 (bt + 1) hi t.1 vo) ∧ Hid (DataAt W2 (bt + 1) hi t.2 vi) ∧ Hid (t.1.length ≤ 16777216 ∧ t.2.length ≤ 16777216) ∧
    Hid (J av acc wr) ∧ Hid (∀ q, bt ≤ q → q < hi → av q) ∧ Hid (∀ q, bt + 1 ≤ q → q < hi → wr.heap[q]? = W2.heap[q]?) ∧ Hid (hi ≤ wr.heap.size)) (fun _ _ v10 _ => k - (intOf v10).toNat)
  case atStart => exact ⟨0, [], ([], []), .slice none 0 0, .slice none 0 0, _, rfl, rfl, by omega, by simp, Lib.hid (by simp), Lib.hid hb2, Lib.hid (DataAt.nil _ _ _), Lib.hid (DataAt.nil _ _ _), Lib.hid (by simp), hav0, Lib.hid (fun q h1 h2 => ⟨h1, h2⟩), Lib.hid (fun q _ _ => rfl), Lib.hid (by rw [hhi.out]; exact Nat.le_refl _)⟩
  case round =>
    obtain ⟨i, acc, t, vo, vi, av, rfl, rfl, hi9, hacc, hf, hbt9, hdo, hdi, hbd, hj, hav, hsame, hsz⟩ := hrel
    by_cases hlt : i < k
    · obtain ⟨e, he⟩ : ∃ e, ms[i]? = some e := ⟨_, List.getElem?_eq_getElem (by have := hk.out; omega)⟩
      obtain ⟨g, tm, v, rfl, hg1, hg2, x0, x1, x2, hdv⟩ := hev.out i e he
      have hst := pstep_step he
      rw [hf.out] at hst
      have hel := hlen.out e (List.mem_of_getElem? he)
      have ce : ∀ q v, W2.cell? ⟨g, q, none⟩ = some v → wr.cell? ⟨g, q, none⟩ = some v := fun q v h => by
        unfold World.cell? at h ⊢
        rw [hsame.out g hg1 hg2]
        exact h
      replace x0 := ce _ _ x0
      replace x1 := ce _ _ x1
      replace x2 := ce _ _ x2
      obtain ⟨d, y⟩ := e
      simp only at x0 hel hdv hst
      obtain ⟨A9, c9, rfl, hsv, hbv⟩ := id hdv
      replace hdv := Lib.hid hdv
      replace hst := Lib.hid hst
      obtain ⟨eb, heb⟩ : ∃ eb, wr.heap.size = eb := ⟨_, rfl⟩
      obtain ⟨We, hWe⟩ : ∃ We, wr.alloc (.cells #[.int .i64 (dz d), .int .i64 tm, .slice A9 y.length c9] 37 (0, 0)) = We := ⟨_, rfl⟩
      have hCe : Chg [] wr We := by rw [← hWe]; exact (Chg.refl [] wr).alloc _
      have hze : We.heap.size = eb + 1 := by rw [← hWe, size_alloc, heb]
      have hbe : We.heap[eb]? = some (.cells #[.int .i64 (dz d), .int .i64 tm, .slice A9 y.length c9] 37 (0, 0)) := by rw [← hWe, ← heb]; exact blk_new _ _
      have hbt1 : We.heap[bt]? = some (.cells #[vo, vi] 46 (0, 0)) := hCe.heap hbt9.out (by simp)
      have e0 : We.cell? ⟨eb, 0, none⟩ = some (.int .i64 (dz d)) := by simp [World.cell?, hbe]
      have e2 : We.cell? ⟨eb, 2, none⟩ = some (.slice A9 y.length c9) := by simp [World.cell?, hbe]
      have t0 : We.cell? ⟨bt, 0, none⟩ = some vo := by simp [World.cell?, hbt1]
      have t1 : We.cell? ⟨bt, 1, none⟩ = some vi := by simp [World.cell?, hbt1]
      have ft0 : We.frozen? ⟨bt, 0, none⟩ = false := by simp [World.frozen?, hbt1]
      have ft1 : We.frozen? ⟨bt, 1, none⟩ = false := by simp [World.frozen?, hbt1]
      replace hbe := Lib.hid hbe
      replace hbt1 := Lib.hid hbt1
      replace hCe := Lib.hid hCe
      replace hze := Lib.hid hze
      replace heb2 := Lib.hid heb
      obtain ⟨Ao, co, rfl, -, -⟩ := id hdo.out
      obtain ⟨Ai, ci, rfl, -, -⟩ := id hdi.out
      have hlt9 : hi ≤ We.heap.size := Nat.le_trans hsz.out hCe.out.size
      have hsame9 : Hid (∀ q, bt + 1 ≤ q → q < hi → We.heap[q]? = W2.heap[q]?) := Lib.hid (fun q h1 h2 => by
        have h3 := hsz.out
        exact (hCe.out.block q (by omega) (by simp)).trans (hsame.out q h1 h2))
      have hjl := Lib.hid (hJl _ _ _ hj.out)
      have hje : Hid (J (fun q => av q ∨ q = eb) acc We) := Lib.hid (hJ.out _ _ _ wr We hj.out (ChgP.of hCe.out (by simp)) (fun q hq => hq.imp id (fun h => by rw [h, heb]; exact Nat.le_refl _)) (fun q hq => by
        have h1 := hze.out
        rcases hq with hq | hq
        · have := hjl.out q hq; rw [heb] at this; omega
        · omega))
      -- what a store into the turn leaves
      have hput : Hid (∀ (B0 : World) (vo' vi' : Value), B0.heap[bt]? = some (.cells #[.slice Ao t.1.length co, .slice Ai t.2.length ci] 46 (0, 0)) → ((B0.setCell ⟨bt, 0, none⟩ vo').setCell ⟨bt, 1, none⟩ vi').heap[bt]? = some (.cells #[vo', vi'] 46 (0, 0))) := Lib.hid (fun B0 vo' vi' h => by
        have h1 := blk_set h 0 vo'
        have h2 := blk_set h1 1 vi'
        simpa using h2)
      clear ce hbv hsv he
      cases d with
      | true =>
        simp only [dz, if_true] at x0 hWe e0
        have hB : Hid ((We.setCell ⟨bt, 1, none⟩ (.slice A9 y.length c9)).heap[bt]? = some (.cells #[.slice Ao t.1.length co, .slice A9 y.length c9] 46 (0, 0))) := Lib.hid (by simpa using blk_set hbt1.out 1 (.slice A9 y.length c9))
        have hCB : Chg [bt] wr (We.setCell ⟨bt, 1, none⟩ (.slice A9 y.length c9)) := (hCe.out.mono (by simp)).setCell (.inl (by simp)) _
        have hjB : Hid (J av acc (We.setCell ⟨bt, 1, none⟩ (.slice A9 y.length c9))) := Lib.hid (hJ.out _ _ _ wr _ hj.out (ChgP.of hCB (fun q hq => .inl (by simp at hq; subst hq; exact hav.out _ (Nat.le_refl _) (by omega)))) (fun q hq => .inl hq) (fun q hq => Nat.lt_of_lt_of_le (hjl.out q hq) hCB.size))
        have hsB : Hid (∀ q, bt + 1 ≤ q → q < hi → (We.setCell ⟨bt, 1, none⟩ (.slice A9 y.length c9)).heap[q]? = W2.heap[q]?) := Lib.hid (fun q h1 h2 => (Below.heap_setCell _ _ _ _ (by show q ≠ bt; omega)).trans (hsame9.out q h1 h2))
        have hzB : Hid (hi ≤ (We.setCell ⟨bt, 1, none⟩ (.slice A9 y.length c9)).heap.size) := Lib.hid (by rw [World.size_setCell]; exact hlt9)
        clear hCB
        gi_wp2
        refine ⟨⟨i + 1, acc, (t.1, y), .slice Ao t.1.length co, .slice A9 y.length c9, av, by go_num, rfl, by omega, by omega, Lib.hid (by rw [hst.out]; rfl), hB, hdo, hdv, Lib.hid ⟨hbd.out.1, hel⟩, hjB, hav, hsB, hzB⟩, by simp [intOf]; omega⟩
      | false =>
        simp only [dz, Bool.false_eq_true, if_false] at x0 hWe e0
        by_cases ht0 : t = ([], [])
        · have e1 : t.1.length = 0 := by rw [ht0]; rfl
          have e2' : t.2.length = 0 := by rw [ht0]; rfl
          have hnp : ¬ (0 : Int) < ((t.1.length : Int) + (t.2.length : Int)) := by omega
          have hnx := hput.out We (.slice A9 y.length c9) (.slice none 0 0) hbt1.out
          have hw0 := IntWalk.i64_in ((t.1.length : Int) + (t.2.length : Int)) (by omega)
          obtain ⟨B, hBe⟩ : ∃ B, (We.setCell ⟨bt, 0, none⟩ (.slice A9 y.length c9)).setCell ⟨bt, 1, none⟩ (.slice none 0 0) = B := ⟨_, rfl⟩
          have hCB : Chg [bt] We B := by rw [← hBe]; exact ((Chg.refl [bt] We).setCell (.inl (by simp)) _).setCell (.inl (by simp)) _
          have hbS := blk_set hbt1.out 0 (.slice A9 y.length c9)
          have ft2 : (We.setCell ⟨bt, 0, none⟩ (.slice A9 y.length c9)).frozen? ⟨bt, 1, none⟩ = false := by simp [World.frozen?, hbS]
          have ft3 : (We.setCell ⟨bt, 0, none⟩ (.slice A9 y.length c9)).cell? ⟨bt, 1, none⟩ = some (.slice Ai t.2.length ci) := by simp only [World.cell?, hbS]; simp
          rw [hBe] at hnx
          replace hnx := Lib.hid hnx
          have hjB : Hid (J av acc B) := Lib.hid (hJ.out _ _ _ wr _ hj.out (ChgP.of ((hCe.out.mono (by simp)).trans hCB) (fun q hq => .inl (by simp at hq; subst hq; exact hav.out _ (Nat.le_refl _) (by omega)))) (fun q hq => .inl hq) (fun q hq => Nat.lt_of_lt_of_le (hjl.out q hq) (Nat.le_trans hCe.out.size hCB.size)))
          have hsB : Hid (∀ q, bt + 1 ≤ q → q < hi → B.heap[q]? = W2.heap[q]?) := Lib.hid (fun q h1 h2 => (hCB.block q (by omega) (by simp; omega)).trans (hsame9.out q h1 h2))
          have hzB : Hid (hi ≤ B.heap.size) := Lib.hid (Nat.le_trans hlt9 hCB.size)
          have hst2 : Hid ((ms.take (i + 1)).foldl pstep ([], ([], [])) = (acc, (y, []))) := Lib.hid (by rw [hst.out]; unfold pstep; rw [if_neg (by simp), if_pos ht0])
          clear hCB hbS
          gi_wp2
          exact ⟨⟨i + 1, acc, (y, []), .slice A9 y.length c9, .slice none 0 0, av, by go_num, rfl, by omega, by omega, hst2, hnx, hdv, Lib.hid (DataAt.nil _ _ _), Lib.hid ⟨hel, by simp⟩, hjB, hav, hsB, hzB⟩, by simp [intOf]; omega⟩
        · have hpos : (0 : Int) < ((t.1.length : Int) + (t.2.length : Int)) := by
            have : t.1 ≠ [] ∨ t.2 ≠ [] := by
              rcases t with ⟨a, b⟩
              by_cases ha : a = []
              · right; intro hb; exact ht0 (by simp only at hb; rw [ha, hb])
              · exact .inl ha
            rcases this with h | h
            · have := List.length_pos_iff.2 h; omega
            · have := List.length_pos_iff.2 h; omega
          have hw0 := IntWalk.i64_in ((t.1.length : Int) + (t.2.length : Int)) (by have := hbd.out; omega)
          have hturn := hdo.out.turn (av := fun q => av q ∨ q = eb) hdi.out hsame9.out (by rw [hhi.out]; exact hlt9) (fun q h1 h2 => .inl (hav.out q (by omega) h2))
          obtain ⟨fn, tmps, assign, body, hy, hR⟩ := hY.out _ acc t We acc.length _ _ hje.out hturn hbd.out.1 hbd.out.2 (by unfold turnsI; rw [hms.out]; exact fin_at (s := (acc ++ [t], (y, []))) (by rw [hst.out]; unfold pstep; rw [if_neg (by simp), if_neg ht0]))
          clear hturn
          gi_wp2
          refine ⟨fun h => (by cases h), hR.mono ?_⟩
          clear hR hy
          rintro e W3 ⟨rfl, hJ3, hk3⟩
          have hb3 : W3.heap[bt]? = some (.cells #[.slice Ao t.1.length co, .slice Ai t.2.length ci] 46 (0, 0)) := (hk3.block bt (by omega) (by simp only [Classical.not_not]; exact .inl (hav.out bt (Nat.le_refl _) (by omega)))).trans hbt1.out
          have he3 : W3.heap[eb]? = some (.cells #[.int .i64 0, .int .i64 tm, .slice A9 y.length c9] 37 (0, 0)) := (hk3.block eb (by have := hze.out; omega) (by simp)).trans hbe.out
          have s2 : W3.cell? ⟨eb, 2, none⟩ = some (.slice A9 y.length c9) := by simp [World.cell?, he3]
          have s3 : W3.cell? ⟨bt, 0, none⟩ = some (.slice Ao t.1.length co) := by simp [World.cell?, hb3]
          have s4 : W3.frozen? ⟨bt, 0, none⟩ = false := by simp [World.frozen?, hb3]
          have hnx := hput.out W3 (.slice A9 y.length c9) (.slice none 0 0) hb3
          obtain ⟨B, hBe⟩ : ∃ B, (W3.setCell ⟨bt, 0, none⟩ (.slice A9 y.length c9)).setCell ⟨bt, 1, none⟩ (.slice none 0 0) = B := ⟨_, rfl⟩
          have hCB : Chg [bt] W3 B := by rw [← hBe]; exact ((Chg.refl [bt] W3).setCell (.inl (by simp)) _).setCell (.inl (by simp)) _
          have hbS := blk_set hb3 0 (.slice A9 y.length c9)
          have ft2 : (W3.setCell ⟨bt, 0, none⟩ (.slice A9 y.length c9)).frozen? ⟨bt, 1, none⟩ = false := by simp [World.frozen?, hbS]
          have ft3 : (W3.setCell ⟨bt, 0, none⟩ (.slice A9 y.length c9)).cell? ⟨bt, 1, none⟩ = some (.slice Ai t.2.length ci) := by simp only [World.cell?, hbS]; simp
          rw [hBe] at hnx
          replace hnx := Lib.hid hnx
          have hjB : Hid (J (fun q => av q ∨ q = eb) (acc ++ [t]) B) := Lib.hid (hJ.out _ _ _ W3 _ hJ3 (ChgP.of hCB (fun q hq => .inl (by simp at hq; subst hq; exact .inl (hav.out _ (Nat.le_refl _) (by omega))))) (fun q hq => .inl hq) (fun q hq => Nat.lt_of_lt_of_le (hJl _ _ _ hJ3 q hq) hCB.size))
          have hsB : Hid (∀ q, bt + 1 ≤ q → q < hi → B.heap[q]? = W2.heap[q]?) := Lib.hid (fun q h1 h2 => (hCB.block q (by have := hk3.size; omega) (by simp; omega)).trans ((hk3.block q (by omega) (by simp only [Classical.not_not]; exact .inl (hav.out q (by omega) h2))).trans (hsame9.out q h1 h2)))
          have hzB : Hid (hi ≤ B.heap.size) := Lib.hid (Nat.le_trans hlt9 (Nat.le_trans hk3.size hCB.size))
          have hst2 : Hid ((ms.take (i + 1)).foldl pstep ([], ([], [])) = (acc ++ [t], (y, []))) := Lib.hid (by rw [hst.out]; unfold pstep; rw [if_neg (by simp), if_neg ht0])
          clear hCB hbS hb3 he3 hJ3 hk3
          gi_wp2
          exact ⟨⟨i + 1, acc ++ [t], (y, []), .slice A9 y.length c9, .slice none 0 0, _, by go_num, by rw [List.length_append]; go_num, by omega, by rw [List.length_append, List.length_singleton]; omega, hst2, hnx, hdv, Lib.hid (DataAt.nil _ _ _), Lib.hid ⟨hel, by simp⟩, hjB, Lib.hid (fun q h1 h2 => .inl (hav.out q h1 h2)), hsB, hzB⟩, by simp [intOf]; omega⟩
    · obtain rfl : i = k := by omega
      obtain ⟨Ao, co, rfl, -, -⟩ := id hdo.out
      obtain ⟨Ai, ci, rfl, -, -⟩ := id hdi.out
      have t0 : wr.cell? ⟨bt, 0, none⟩ = some (.slice Ao t.1.length co) := by have := hbt9.out; simp [World.cell?, this]
      have t1 : wr.cell? ⟨bt, 1, none⟩ = some (.slice Ai t.2.length ci) := by have := hbt9.out; simp [World.cell?, this]
      have hfin : turnsI evs = fin (acc, t) := by
        unfold turnsI
        rw [hms.out, ← hf.out, List.take_of_length_le (by rw [hk.out]; exact Nat.le_refl _)]
      by_cases ht0 : t = ([], [])
      · have e1 : t.1.length = 0 := by rw [ht0]; rfl
        have e2' : t.2.length = 0 := by rw [ht0]; rfl
        have hnp : ¬ (0 : Int) < ((t.1.length : Int) + (t.2.length : Int)) := by omega
        have hw0 := IntWalk.i64_in ((t.1.length : Int) + (t.2.length : Int)) (by omega)
        have hr : turnsI evs = acc := by rw [hfin]; unfold fin; rw [if_pos ht0]
        replace hr := Lib.hid hr
        clear hfin
        gi_wp2
        refine bodyPost_end (results_none rfl _ _ _) rfl ?_
        rw [hr.out]
        exact ⟨⟨_, rfl⟩, _, hj.out⟩
      · have hpos : (0 : Int) < ((t.1.length : Int) + (t.2.length : Int)) := by
          have : t.1 ≠ [] ∨ t.2 ≠ [] := by
            rcases t with ⟨a, b⟩
            by_cases ha : a = []
            · right; intro hb; exact ht0 (by simp only at hb; rw [ha, hb])
            · exact .inl ha
          rcases this with h | h
          · have := List.length_pos_iff.2 h; omega
          · have := List.length_pos_iff.2 h; omega
        have hw0 := IntWalk.i64_in ((t.1.length : Int) + (t.2.length : Int)) (by have := hbd.out; omega)
        have hturn := hdo.out.turn (av := av) hdi.out hsame.out (by rw [hhi.out]; exact hsz.out) (fun q h1 h2 => hav.out q (by omega) h2)
        have hr : turnsI evs = acc ++ [t] := by rw [hfin]; unfold fin; rw [if_neg ht0]
        obtain ⟨fn, tmps, assign, body, hy, hR⟩ := hY.out _ acc t wr acc.length _ _ hj.out hturn hbd.out.1 hbd.out.2 (by rw [hr]; exact List.prefix_refl _)
        replace hr := Lib.hid hr
        clear hturn hfin
        gi_wp2
        refine ⟨fun h => (by cases h), hR.mono ?_⟩
        rintro e W3 ⟨rfl, hJ3, hk3⟩
        gi_wp2
        refine bodyPost_end (results_none rfl _ _ _) rfl ?_
        rw [hr.out]
        exact ⟨⟨_, rfl⟩, _, hJ3⟩
end Ev_
end Go.Proofs.YtncoedoiakaedaaDoor
