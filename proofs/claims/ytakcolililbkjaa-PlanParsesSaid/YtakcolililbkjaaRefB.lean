/- RQuo, RBare, RWord, RCmds, RParse: texts of mine, joined. Conditions: as they state. -/
import Derived.Test.YtakcolililbkjaaRefA
import Derived.Test.YtakcolililbkjaaTclWd
import Derived.Test.YtakcolililbkjaaTclCmds
import Derived.Test.YtakcolililbkjaaTclParse
set_option linter.unusedVariables false
set_option linter.unusedSimpArgs false
namespace Go.Proofs.Ytakcolililbkjaa
open Go.RowKit Tcl PPlanParses YtakcolililbkjaaW.PrintWords
namespace Rt
/-- A word being made: the result's block `b`, the word's behind it, the parts anew. -/
structure QS (w0 wr : World) (g b : Nat) (B : ByteArray) (i e a : Int) (v0 : Value) (f kd : Int) (A : Option Addr) (n c : Nat) (ps : List Part) : Prop where
  P : RP wr g B i e a v0
  R : wr.heap[b]? = some (.cells #[.int .i64 0, .int .i64 0, .slice none 0 0] 38 (0, 0))
  W : wr.heap[b + 1]? = some (.cells #[.int .i64 f, .int .i64 kd, .slice A n c] 38 (0, 0))
  O : wr.ownsRow (b + 2) 42 2 (.slice A n c) n (partsCells ps)
  n : n = ps.length
  C : Chg [g] w0 wr
  s : w0.heap.size = b
  g : g < b
  l : b + 2 ≤ wr.heap.size
theorem QS.chg {w0 wr wr' : World} {g b : Nat} {B : ByteArray} {i e a : Int} {v0 : Value} {f kd : Int} {A : Option Addr} {n c : Nat} {ps : List Part} (h : QS w0 wr g b B i e a v0 f kd A n c ps) (hc : Chg [] wr wr') : QS w0 wr' g b B i e a v0 f kd A n c ps :=
  ⟨h.P.chg hc (by simp), hc.heap h.R (by simp), hc.heap h.W (by simp), own_chg h.O hc (by simp), h.n, h.C.trans (hc.mono (by simp)), h.s, h.g, Nat.le_trans h.l hc.size⟩
theorem QS.fail {w0 wr wr' : World} {g b : Nat} {B : ByteArray} {i e a i' e' a' : Int} {v0 : Value} {f kd : Int} {A : Option Addr} {n c : Nat} {ps : List Part} (h : QS w0 wr g b B i e a v0 f kd A n c ps) (hc : Chg [g] wr wr') (hp : RP wr' g B i' e' a' v0) : QS w0 wr' g b B i' e' a' v0 f kd A n c ps :=
  ⟨hp, hc.heap h.R (by have := h.g; simp; omega), hc.heap h.W (by have := h.g; simp; omega), own_chg h.O hc (fun q hq hm => by have h1 := (h.O.lt q hq).1; have h2 := h.g; simp at hm; omega), h.n, h.C.trans hc, h.s, h.g, Nat.le_trans h.l hc.size⟩
theorem QS.put {w0 wr : World} {g b : Nat} {B : ByteArray} {i e a : Int} {v0 : Value} {f kd : Int} {A : Option Addr} {n c : Nat} {ps : List Part} (h : QS w0 wr g b B i e a v0 f kd A n c ps) (j : Int) : QS w0 (wr.setCell ⟨g, 1, none⟩ (.int .i64 j)) g b B j e a v0 f kd A n c ps :=
  h.fail ((Chg.refl [g] wr).setCell (.inl (by simp)) _) (h.P.put j)
theorem QS.cells {w0 wr : World} {g b : Nat} {B : ByteArray} {i e a : Int} {v0 : Value} {f kd : Int} {A : Option Addr} {n c : Nat} {ps : List Part} (h : QS w0 wr g b B i e a v0 f kd A n c ps) :
    (wr.cell? ⟨b + 1, 0, none⟩ = some (.int .i64 f) ∧ wr.cell? ⟨b + 1, 1, none⟩ = some (.int .i64 kd) ∧ wr.cell? ⟨b + 1, 2, none⟩ = some (.slice A n c)) ∧ (∀ k, wr.frozen? ⟨b + 1, k, none⟩ = false) ∧
    (wr.cell? ⟨b, 0, none⟩ = some (.int .i64 0) ∧ wr.cell? ⟨b, 1, none⟩ = some (.int .i64 0) ∧ wr.cell? ⟨b, 2, none⟩ = some (.slice none 0 0)) ∧ (∀ k, wr.frozen? ⟨b, k, none⟩ = false) :=
  ⟨word_cells h.W, word_frozen h.W, word_cells h.R, word_frozen h.R⟩
/-- Behind `one`: the world and the parts. -/
theorem QS.one {w0 wr w1 : World} {g b : Nat} {B : ByteArray} {i e a i' e' a' : Int} {v0 : Value} {f kd : Int} {A A' : Option Addr} {n c n' c' : Nat} {ps ps' : List Part} (h : QS w0 wr g b B i e a v0 f kd A n c ps) (hc : Chg (g :: (Value.slice A n c).ownBlock.toList) wr w1)
    (hO : w1.ownsRow (b + 2) 42 2 (.slice A' n' c') n' (partsCells ps')) (hn : n' = ps'.length) (hp : RP w1 g B i' e' a' v0) :
    w1.cell? ⟨b + 1, 2, none⟩ = some (.slice A n c) ∧ w1.frozen? ⟨b + 1, 2, none⟩ = false ∧ QS w0 (w1.setCell ⟨b + 1, 2, none⟩ (.slice A' n' c')) g b B i' e' a' v0 f kd A' n' c' ps' := by
  have hg := h.g
  have m0 : ∀ k, k < b + 2 → k ≠ g → k ∉ g :: (Value.slice A n c).ownBlock.toList := fun k hk hkg hm => by
    rcases List.mem_cons.1 hm with h1 | h1
    · exact hkg h1
    · have := (h.O.lt k (by simpa using h1)).1; omega
  have g1 := hc.heap h.W (m0 _ (by omega) (by omega))
  have g2 := hc.heap h.R (m0 _ (by omega) (by omega))
  have hSt : Chg [b + 1] w1 (w1.setCell ⟨b + 1, 2, none⟩ (.slice A' n' c')) := (Chg.refl [b + 1] w1).setCell (.inl (by simp)) _
  refine ⟨(word_cells g1).2.2, word_frozen g1 2, hp.chg hSt (by simp; omega), hSt.heap g2 (by simp), ?_, own_chg hO hSt (fun q hq hm => by have h1 := (hO.lt q hq).1; simp at hm; omega), hn, ?_, h.s, hg, Nat.le_trans h.l (Nat.le_trans hc.size hSt.size)⟩
  · have := blk_set g1 2 (.slice A' n' c'); simpa using this
  · have h1 : Chg [g] w0 w1 := h.C.then hc (fun q hq => by
      rcases List.mem_cons.1 hq with h1 | h1
      · exact .inl (by simp [h1])
      · have := (h.O.lt q (by simpa using h1)).1; have := h.s; exact .inr (by omega))
    exact h1.then hSt (fun q hq => .inr (by have := h.s; simp at hq; omega))
theorem QS.fin {w0 wr : World} {g b : Nat} {B : ByteArray} {i e a : Int} {v0 : Value} {f kd : Int} {A : Option Addr} {n c : Nat} {ps : List Part} (h : QS w0 wr g b B i e a v0 f kd A n c ps) :
    (((wr.setCell ⟨b, 0, none⟩ (.int .i64 f)).setCell ⟨b, 1, none⟩ (.int .i64 kd)).setCell ⟨b, 2, none⟩ (.slice A n c)).heap[b]? = some (.cells #[.int .i64 f, .int .i64 kd, .slice A n c] 38 (0, 0)) ∧
    Chg [g] w0 (((wr.setCell ⟨b, 0, none⟩ (.int .i64 f)).setCell ⟨b, 1, none⟩ (.int .i64 kd)).setCell ⟨b, 2, none⟩ (.slice A n c)) ∧ RP (((wr.setCell ⟨b, 0, none⟩ (.int .i64 f)).setCell ⟨b, 1, none⟩ (.int .i64 kd)).setCell ⟨b, 2, none⟩ (.slice A n c)) g B i e a v0 ∧
    PartsAt (((wr.setCell ⟨b, 0, none⟩ (.int .i64 f)).setCell ⟨b, 1, none⟩ (.int .i64 kd)).setCell ⟨b, 2, none⟩ (.slice A n c)) (.slice A n c) ps ∧ ∀ q, (Value.slice A n c).ownBlock = some q → w0.heap.size ≤ q := by
  have hg := h.g
  have h1 : Chg [b] wr (((wr.setCell ⟨b, 0, none⟩ (.int .i64 f)).setCell ⟨b, 1, none⟩ (.int .i64 kd)).setCell ⟨b, 2, none⟩ (.slice A n c)) := (((Chg.refl [b] wr).setCell (.inl (by simp)) _).setCell (.inl (by simp)) _).setCell (.inl (by simp)) _
  refine ⟨?_, h.C.then h1 (fun q hq => .inr (by have := h.s; simp at hq; omega)), h.P.chg h1 (by simp; omega), ?_, fun q hq => by have h2 := (h.O.lt q hq).1; have := h.s; omega⟩
  · have := blk_set (blk_set (blk_set h.R 0 (.int .i64 f)) 1 (.int .i64 kd)) 2 (.slice A n c)
    simpa using this
  · unfold PartsAt
    rw [← h.n]
    exact own_sl (own_chg h.O h1 (fun q hq hm => by have h2 := (h.O.lt q hq).1; simp at hm; omega))
theorem QS.init {w : World} {g : Nat} {B : ByteArray} {i e a : Int} {v0 : Value} (h : RP w g B i e a v0) (f kd : Int) :
    QS w ((w.alloc (.cells #[.int .i64 0, .int .i64 0, .slice none 0 0] 38)).alloc (.cells #[.int .i64 f, .int .i64 kd, .slice none 0 0] 38)) g w.heap.size B i e a v0 f kd none 0 0 [] := by
  refine ⟨h.chg (((Chg.refl [] w).alloc _).alloc _) (by simp), blk_alloc (blk_new _ _) _, ?_, World.ownsRow_nil _ _ _ _, rfl, ((Chg.refl [g] w).alloc _).alloc _, rfl, h.lt, by simp⟩
  have := blk_new (w.alloc (.cells #[.int .i64 0, .int .i64 0, .slice none 0 0] 38)) (.cells #[.int .i64 f, .int .i64 kd, .slice none 0 0] 38)
  rw [show (w.alloc (.cells #[.int .i64 0, .int .i64 0, .slice none 0 0] 38)).heap.size = w.heap.size + 1 from Array.size_push ..] at this
  exact this
/-- What the reference's `quoted` tells. -/
def RqEnd (w : World) (g : Nat) (s : List UInt8) (f : Nat) (a0 : Int) (v0 : Value) (e : Ending) (w' : World) : Prop :=
  ∃ A n c', e = .returned (.agg #[.int .i64 f, .int .i64 1, .slice A n c']) ∧ Chg [g] w w' ∧ (∀ q, (Value.slice A n c').ownBlock = some q → w.heap.size ≤ q) ∧
    ((∃ r j, partsGo quoteB s (some f) (f + 1) [] [] = .ok (r, j) ∧ j < s.length ∧ RP w' g (bstr s) ((j + 1 : Nat) : Int) 0 a0 v0 ∧ n = r.length ∧ PartsAt w' (.slice A n c') r)
    ∨ (∃ p c i : Nat, (partsGo quoteB s (some f) (f + 1) [] [] = .error (p, c) ∨ (∃ r, partsGo quoteB s (some f) (f + 1) [] [] = .ok (r, s.length) ∧ p = f ∧ c = 5)) ∧ c ≠ 0 ∧ RP w' g (bstr s) i c p v0))
set_option maxRecDepth 100000 in
set_option maxHeartbeats 4000000 in
theorem quoted_ref (w : World) (g : Nat) (s : List UInt8) (f : Nat) (a0 : Int) (v0 : Value) (hs : s.length ≤ 50000) (hf : f < s.length) (h : RP w g (bstr s) f 0 a0 v0) :
    Calls Try.prog 46 #[.pointer (some ⟨g, 0, none⟩)] w (RqEnd w g s f a0 v0) := by
  have hsz : (bstr s).size = s.length := rfl
  have hone := Lib.hid (fun W base o i c A n c0 l t hc hst hfr hol hn hl ht ho hO hgb hb h => one_ref W g base s quoteB (some f) o i c A n c0 l t a0 v0 hs hc hst hfr hol hn hl ht ho hO hgb hb h)
  obtain ⟨B, hB⟩ : ∃ B, bstr s = B := ⟨_, rfl⟩
  have hby : ∀ i (h : i < B.size), s[i]? = some (B[i]'h) := by rw [← hB]; exact fun i h => byte_of h
  unfold RqEnd
  unfold OneEnd at hone
  rw [hB] at h hsz hone ⊢
  have hq0 := Lib.hid (QS.init h f 1)
  obtain ⟨-, k1, -, -, -⟩ := h.c0
  replace hby := Lib.hid hby
  clear h hB
  have k1a : (w.alloc (.cells #[.int .i64 0, .int .i64 0, .slice none 0 0] 38)).cell? ⟨g, 1, none⟩ = some (.int .i64 f) := ((Chg.refl [] w).alloc _).cell k1 (by simp)
  obtain ⟨b, hb⟩ : ∃ b, w.heap.size = b := ⟨_, rfl⟩
  have hsz1 : (w.alloc (.cells #[.int .i64 0, .int .i64 0, .slice none 0 0] 38)).heap.size = w.heap.size + 1 := Array.size_push ..
  rw [hb] at hq0 hsz1
  replace hsz1 := Lib.hid hsz1
  clear k1
  go_enter Try.func46, Try.ntmps46
  go_upto_region 2 with fail
  generalize (w.alloc (.cells #[.int .i64 0, .int .i64 0, .slice none 0 0] 38)).alloc (.cells #[.int .i64 f, .int .i64 1, .slice none 0 0] 38) = W1 at hq0 ⊢
  obtain ⟨-, c1, -, -, -⟩ := hq0.out.P.c0
  have f1 := hq0.out.P.f0 1
  have hq1 := Lib.hid (hq0.out.put ((f : Int) + 1))
  clear hq0 k1a
  go_wp2_with fail
  generalize W1.setCell ⟨g, 1, none⟩ (.int .i64 ((f : Int) + 1)) = W2 at hq1 ⊢
  clear c1 f1
  go_loopg [] (s.length + 1 - (f + 1)) (fun gk w' => ∃ (i : Nat) (e a : Int) (A : Option Addr) (n c : Nat) (l : List Part) (t : List UInt8), Hid (QS w w' g b B i e a v0 f 1 A n c (flush l t)) ∧ i ≤ s.length ∧ f < i ∧
    ((e = 0 ∧ a = a0 ∧ gk = s.length + 1 - i ∧ Hid (partsGo quoteB s (some f) (f + 1) [] [] = partsGo quoteB s (some f) i l t) ∧ Open l ∧ l.length ≤ i ∧ t.length ≤ i) ∨
     (gk = 0 ∧ ∃ p q : Nat, e = q ∧ a = p ∧ q ≠ 0 ∧ Hid (partsGo quoteB s (some f) (f + 1) [] [] = .error (p, q)))))
  case atStart => exact ⟨f + 1, 0, a0, none, 0, 0, [], [], hq1, by omega, by omega, .inl ⟨rfl, rfl, rfl, Lib.hid rfl, open_nil, by simp, by simp⟩⟩
  case round =>
    obtain ⟨i, e, a, A, n, c, l, t, hQ, hil, hfi, hcase⟩ := hrel
    clear hq1
    rcases hcase with ⟨rfl, rfl, rfl, hE, hol, hl, ht⟩ | ⟨rfl, p, q, rfl, rfl, hq, hE⟩
    · by_cases hlt : i < s.length
      · have hmo := Lib.hid (more_ref wr g B i 0 a v0 hQ.out.P true (by simp; omega))
        have hlB : i < B.size := by omega
        obtain ⟨ch, hch⟩ : ∃ ch, B[i]'hlB = ch := ⟨_, rfl⟩
        have hsc : s[i]? = some ch := by rw [hby.out i hlB, hch]
        have hstep := parts_some (stop := quoteB) (f := some f) (l := l) (t := t) hsc
        replace hstep := Lib.hid (hE.out.trans hstep)
        go_wp2_with fail
        refine (hmo.out).mono ?_
        rintro e' w2 ⟨rfl, hC2⟩
        replace hQ := Lib.hid (hQ.out.chg hC2)
        clear hmo hC2
        obtain ⟨c0, c1, -, -, -⟩ := hQ.out.P.c0
        go_wp2_with fail
        go_quiet (fail)
        replace hQ := Lib.hid (hQ.out.chg ((Chg.refl [] w2).drewN nq))
        clear c0 c1
        generalize w2.drewN nq = w3 at hQ ⊢
        by_cases h34 : ch = 34
        · subst h34
          have hE2 := Lib.hid (hstep.out.trans (if_pos rfl))
          obtain ⟨-, c1, -, -, -⟩ := hQ.out.P.c0
          have f1 := hQ.out.P.f0 1
          replace hQ := Lib.hid (hQ.out.put ((i : Int) + 1))
          clear hstep hE
          go_upto_region 6 with fail
          generalize w3.setCell ⟨g, 1, none⟩ (.int .i64 ((i : Int) + 1)) = w4 at hQ ⊢
          obtain ⟨⟨x0, x1, x2⟩, y, ⟨z0, z1, z2⟩, zf⟩ := hQ.out.cells
          have y2 := y 2
          have zf0 := zf 0
          have zf1 := zf 1
          have zf2 := zf 2
          clear y zf
          clear c1 f1
          go_wp2_with fail
          obtain ⟨q1, q2, q3, q4, q5⟩ := hQ.out.fin
          generalize (((w4.setCell ⟨b, 0, none⟩ (.int .i64 f)).setCell ⟨b, 1, none⟩ (.int .i64 1)).setCell ⟨b, 2, none⟩ (.slice A n c)) = w' at q1 q2 q3 q4 ⊢
          refine bodyPost_ret (v := .agg #[.int .i64 f, .int .i64 1, .slice A n c]) ?_ rfl ⟨A, n, c, rfl, q2, q5, .inl ⟨flush l t, i, hE2.out, hlt, q3, hQ.out.n, q4⟩⟩
          exact results_cell1 rfl _ _ b 38 _ (0, 0) _ rfl q1 Try.underlying38 rfl (by kernel_rfl)
        · have e34 := u8n (n := 34) h34
          have hst : quoteB ch = false := by unfold quoteB; simpa using h34
          obtain ⟨⟨x0, x1, x2⟩, y, ⟨z0, z1, z2⟩, zf⟩ := hQ.out.cells
          have y2 := y 2
          have zf0 := zf 0
          have zf1 := zf 1
          have zf2 := zf 2
          clear y zf
          have hO := hQ.out.O
          have hP := hQ.out.P
          have hg2 := hQ.out.g
          have hl2 := hQ.out.l
          have hn2 := hQ.out.n
          have hcall := Lib.hid (hone.out w3 (b + 2) f i ch A n c l t hsc hst rfl hol hn2.symm hl ht (by omega) hO (by omega) hl2 hP)
          clear hO hP hg2 hl2 hn2 hstep
          go_wp2_with fail
          refine (hcall.out).mono ?_
          rintro e' w4 ⟨A', n', c', rfl, hC4, -, l', t', hol', hn', hO4, hcase⟩
          have hi' : ∃ i' e' a' : Int, RP w4 g B i' e' a' v0 := by
            rcases hcase with ⟨j, _, _, _, _, _, h⟩ | ⟨p, q, _, _, h⟩
            · exact ⟨_, _, _, h⟩
            · exact ⟨_, _, _, h⟩
          obtain ⟨x2a, y2a, hQ5⟩ : w4.cell? ⟨b + 1, 2, none⟩ = some (.slice A n c) ∧ w4.frozen? ⟨b + 1, 2, none⟩ = false ∧ ∀ i' e' a' : Int, RP w4 g B i' e' a' v0 → QS w (w4.setCell ⟨b + 1, 2, none⟩ (.slice A' n' c')) g b B i' e' a' v0 f 1 A' n' c' (flush l' t') := by
            obtain ⟨i', e', a', hp⟩ := hi'
            have h1 := hQ.out.one hC4 hO4 hn' hp
            exact ⟨h1.1, h1.2.1, fun _ _ _ hp => (hQ.out.one hC4 hO4 hn' hp).2.2⟩
          replace hQ5 := Lib.hid hQ5
          replace hn' := Lib.hid hn'
          replace hcase := Lib.hid hcase
          clear x0 x1 x2 y2 z0 z1 z2 zf0 zf1 zf2 hC4 hO4 hcall hi' hQ
          go_wp2_with fail
          rcases hcase.out with ⟨j, hj1, hj2, hj3, hj4, hj5, hp⟩ | ⟨p, q, he, hq0, hp⟩
          · go_roundg (s.length + 1 - j)
            case measure => omega
            case rel => exact ⟨j, 0, a, A', n', c', l', t', Lib.hid (hQ5.out _ _ _ hp), hj2, by omega, .inl ⟨rfl, rfl, rfl, Lib.hid (hE.out.trans hj5), hol', hj3, hj4⟩⟩
          · go_roundg 0
            case measure => omega
            case rel => exact ⟨i, q, p, A', n', c', l', t', Lib.hid (hQ5.out _ _ _ hp), by omega, hfi, .inr ⟨rfl, p, q, rfl, rfl, hq0, Lib.hid (hE.out.trans he)⟩⟩
      · obtain rfl : i = s.length := by omega
        have hE2 := Lib.hid (hE.out.trans (parts_none (List.getElem?_eq_none (Nat.le_refl _))))
        have hmo := Lib.hid (more_ref wr g B s.length 0 a v0 hQ.out.P false (by simp; omega))
        go_wp2_with fail
        refine (hmo.out).mono ?_
        rintro e' w2 ⟨rfl, hC2⟩
        replace hQ := Lib.hid (hQ.out.chg hC2)
        clear hmo hC2
        obtain ⟨⟨x0, -, -⟩, -, -, -⟩ := hQ.out.cells
        go_wp2_with fail
        refine (fail_ref w2 g B s.length a f 5 v0 hQ.out.P).mono ?_
        rintro e' w3 ⟨rfl, hP3, hC3⟩
        replace hQ := Lib.hid (hQ.out.fail hC3 hP3)
        clear x0 hP3 hC3
        obtain ⟨⟨x0, x1, x2⟩, y, ⟨z0, z1, z2⟩, zf⟩ := hQ.out.cells
        have y2 := y 2
        have zf0 := zf 0
        have zf1 := zf 1
        have zf2 := zf 2
        clear y zf
        go_wp2_with fail
        obtain ⟨q1, q2, q3, q4, q5⟩ := hQ.out.fin
        generalize (((w3.setCell ⟨b, 0, none⟩ (.int .i64 f)).setCell ⟨b, 1, none⟩ (.int .i64 1)).setCell ⟨b, 2, none⟩ (.slice A n c)) = w' at q1 q2 q3 q4 ⊢
        refine bodyPost_ret (v := .agg #[.int .i64 f, .int .i64 1, .slice A n c]) ?_ rfl ⟨A, n, c, rfl, q2, q5, .inr ⟨f, 5, s.length, .inr ⟨_, hE2.out, rfl, rfl⟩, by decide, q3⟩⟩
        exact results_cell1 rfl _ _ b 38 _ (0, 0) _ rfl q1 Try.underlying38 rfl (by kernel_rfl)
    · have hmo := Lib.hid (more_ref wr g B i q p v0 hQ.out.P false (by have : (q : Int) ≠ 0 := by omega
                                                                       simp [this]; intro h; omega))
      go_wp2_with fail
      refine (hmo.out).mono ?_
      rintro e' w2 ⟨rfl, hC2⟩
      replace hQ := Lib.hid (hQ.out.chg hC2)
      clear hmo hC2
      obtain ⟨⟨x0, -, -⟩, -, -, -⟩ := hQ.out.cells
      go_wp2_with fail
      refine (fail_ref2 w2 g B i q p f 5 v0 (by omega) hQ.out.P).mono ?_
      rintro e' w3 ⟨rfl, hC3⟩
      replace hQ := Lib.hid (hQ.out.chg hC3)
      clear x0 hC3
      obtain ⟨⟨x0, x1, x2⟩, y, ⟨z0, z1, z2⟩, zf⟩ := hQ.out.cells
      have y2 := y 2
      have zf0 := zf 0
      have zf1 := zf 1
      have zf2 := zf 2
      clear y zf
      go_wp2_with fail
      obtain ⟨q1, q2, q3, q4, q5⟩ := hQ.out.fin
      generalize (((w3.setCell ⟨b, 0, none⟩ (.int .i64 f)).setCell ⟨b, 1, none⟩ (.int .i64 1)).setCell ⟨b, 2, none⟩ (.slice A n c)) = w' at q1 q2 q3 q4 ⊢
      refine bodyPost_ret (v := .agg #[.int .i64 f, .int .i64 1, .slice A n c]) ?_ rfl ⟨A, n, c, rfl, q2, q5, .inr ⟨p, q, i, .inl hE.out, hq, q3⟩⟩
      exact results_cell1 rfl _ _ b 38 _ (0, 0) _ rfl q1 Try.underlying38 rfl (by kernel_rfl)
end Rt
end Go.Proofs.Ytakcolililbkjaa
namespace Go.Proofs.Ytakcolililbkjaa
open Go.RowKit Tcl PPlanParses YtakcolililbkjaaW.PrintWords
namespace Rt
/-- What the reference's `bare` tells. -/
def RaEnd (w : World) (g : Nat) (s : List UInt8) (f : Nat) (a0 : Int) (v0 : Value) (e : Ending) (w' : World) : Prop :=
  ∃ A n c', e = .returned (.agg #[.int .i64 f, .int .i64 0, .slice A n c']) ∧ Chg [g] w w' ∧ (∀ q, (Value.slice A n c').ownBlock = some q → w.heap.size ≤ q) ∧
    ((∃ r j, partsGo stopB s none f [] [] = .ok (r, j) ∧ j ≤ s.length ∧ RP w' g (bstr s) j 0 a0 v0 ∧ n = r.length ∧ PartsAt w' (.slice A n c') r)
    ∨ (∃ p c i : Nat, partsGo stopB s none f [] [] = .error (p, c) ∧ c ≠ 0 ∧ RP w' g (bstr s) i c p v0))
set_option maxRecDepth 100000 in
set_option maxHeartbeats 8000000 in
theorem bare_ref (w : World) (g : Nat) (s : List UInt8) (f : Nat) (a0 : Int) (v0 : Value) (hs : s.length ≤ 50000) (hf : f < s.length) (h : RP w g (bstr s) f 0 a0 v0) :
    Calls Try.prog 44 #[.pointer (some ⟨g, 0, none⟩)] w (RaEnd w g s f a0 v0) := by
  have hsz : (bstr s).size = s.length := rfl
  have hone := Lib.hid (fun W base i c A n c0 l t hc hst hol hn hl ht ho hO hgb hb h => one_ref W g base s stopB none i i c A n c0 l t a0 v0 hs hc hst rfl hol hn hl ht ho hO hgb hb h)
  obtain ⟨B, hB⟩ : ∃ B, bstr s = B := ⟨_, rfl⟩
  have hby : ∀ i (h : i < B.size), s[i]? = some (B[i]'h) := by rw [← hB]; exact fun i h => byte_of h
  unfold RaEnd
  unfold OneEnd at hone
  rw [hB] at h hsz hone ⊢
  have hq0 := Lib.hid (QS.init h f 0)
  obtain ⟨-, k1, -, -, -⟩ := h.c0
  replace hby := Lib.hid hby
  clear h hB
  have k1a : (w.alloc (.cells #[.int .i64 0, .int .i64 0, .slice none 0 0] 38)).cell? ⟨g, 1, none⟩ = some (.int .i64 f) := ((Chg.refl [] w).alloc _).cell k1 (by simp)
  obtain ⟨b, hb⟩ : ∃ b, w.heap.size = b := ⟨_, rfl⟩
  have hsz1 : (w.alloc (.cells #[.int .i64 0, .int .i64 0, .slice none 0 0] 38)).heap.size = w.heap.size + 1 := Array.size_push ..
  rw [hb] at hq0 hsz1
  replace hsz1 := Lib.hid hsz1
  clear k1
  go_enter Try.func44, Try.ntmps44
  go_upto_block 0 with (fail)
  generalize (w.alloc (.cells #[.int .i64 0, .int .i64 0, .slice none 0 0] 38)).alloc (.cells #[.int .i64 f, .int .i64 0, .slice none 0 0] 38) = W1 at hq0 ⊢
  clear k1a
  go_wp2
  go_loopg [] (s.length + 1 - f) (fun gk w' => ∃ (i : Nat) (e a : Int) (A : Option Addr) (n c : Nat) (l : List Part) (t : List UInt8), Hid (QS w w' g b B i e a v0 f 0 A n c (flush l t)) ∧ i ≤ s.length ∧ f ≤ i ∧
    ((e = 0 ∧ a = a0 ∧ gk = s.length + 1 - i ∧ Hid (partsGo stopB s none f [] [] = partsGo stopB s none i l t) ∧ Open l ∧ l.length ≤ i ∧ t.length ≤ i) ∨
     (gk = 0 ∧ ∃ p q : Nat, e = q ∧ a = p ∧ q ≠ 0 ∧ Hid (partsGo stopB s none f [] [] = .error (p, q)))))
  case atStart => exact ⟨f, 0, a0, none, 0, 0, [], [], hq0, by omega, by omega, .inl ⟨rfl, rfl, rfl, Lib.hid rfl, open_nil, by simp, by simp⟩⟩
  case round =>
    obtain ⟨i, e, a, A, n, c, l, t, hQ, hil, hfi, hcase⟩ := hrel
    clear hq0
    rcases hcase with ⟨rfl, rfl, rfl, hE, hol, hl, ht⟩ | ⟨rfl, p, q, rfl, rfl, hq, hE⟩
    · by_cases hlt : i < s.length
      · have hmo := Lib.hid (fun m => more_ref0 (wr.drewN m) g B i 0 a v0 (hQ.out.P.chg ((Chg.refl [] wr).drewN m) (by simp)) true (by simp; omega))
        have hlB : i < B.size := by omega
        obtain ⟨ch, hch⟩ : ∃ ch, B[i]'hlB = ch := ⟨_, rfl⟩
        have hsc : s[i]? = some ch := by rw [hby.out i hlB, hch]
        have hstep := parts_some (stop := stopB) (f := none) (l := l) (t := t) hsc
        replace hstep := Lib.hid (hE.out.trans hstep)
        obtain ⟨c0, c1, -, -, -⟩ := hQ.out.P.c0
        by_cases hb1 : blankB ch = true
        · have hbl := Lib.hid (fun w => blank_ref w ch true hb1)
          have hE2 := Lib.hid (hstep.out.trans (if_pos (show stopB ch = true by unfold stopB; rw [hb1]; rfl)))
          clear hstep hE hb1
          go_wp2_with fail
          go_quiet ((first | (go_at_call 30; exact (hmo.out _).mono (fun e w' h => ⟨h.1, drawn_over h.2⟩)) | (go_at_call 31; exact (hbl.out _).mono (fun e w' h => ⟨h.1, _, h.2⟩)) | (go_at_call 32; exact (hen.out _).mono (fun e w' h => ⟨h.1, _, h.2⟩))))
          replace hQ := Lib.hid (hQ.out.chg ((Chg.refl [] wr).drewN nq))
          clear hmo
          try clear hbl
          try clear hen
          try clear c0 c1
          generalize wr.drewN nq = w3 at hQ ⊢
          obtain ⟨⟨x0, x1, x2⟩, y, ⟨z0, z1, z2⟩, zf⟩ := hQ.out.cells
          have y2 := y 2
          have zf0 := zf 0
          have zf1 := zf 1
          have zf2 := zf 2
          clear y zf
          go_wp2_with fail
          obtain ⟨q1, q2, q3, q4, q5⟩ := hQ.out.fin
          generalize (((w3.setCell ⟨b, 0, none⟩ (.int .i64 f)).setCell ⟨b, 1, none⟩ (.int .i64 0)).setCell ⟨b, 2, none⟩ (.slice A n c)) = w' at q1 q2 q3 q4 ⊢
          refine bodyPost_ret (v := .agg #[.int .i64 f, .int .i64 0, .slice A n c]) ?_ rfl ⟨A, n, c, rfl, q2, q5, .inl ⟨flush l t, i, hE2.out, hil, q3, hQ.out.n, q4⟩⟩
          exact results_cell1 rfl _ _ b 38 _ (0, 0) _ rfl q1 Try.underlying38 rfl (by kernel_rfl)
        · replace hb1 : blankB ch = false := by simpa using hb1
          have hbl := Lib.hid (fun w => blank_ref w ch false hb1)
          by_cases hb2 : endB ch = true
          · have hen := Lib.hid (fun w => end_ref w ch true hb2)
            have hE2 := Lib.hid (hstep.out.trans (if_pos (show stopB ch = true by unfold stopB; rw [hb2, Bool.or_true])))
            clear hstep hE hb1 hb2
            go_wp2_with fail
            go_quiet ((first | (go_at_call 30; exact (hmo.out _).mono (fun e w' h => ⟨h.1, drawn_over h.2⟩)) | (go_at_call 31; exact (hbl.out _).mono (fun e w' h => ⟨h.1, _, h.2⟩)) | (go_at_call 32; exact (hen.out _).mono (fun e w' h => ⟨h.1, _, h.2⟩))))
            replace hQ := Lib.hid (hQ.out.chg ((Chg.refl [] wr).drewN nq))
            clear hmo
            try clear hbl
            try clear hen
            try clear c0 c1
            generalize wr.drewN nq = w3 at hQ ⊢
            obtain ⟨⟨x0, x1, x2⟩, y, ⟨z0, z1, z2⟩, zf⟩ := hQ.out.cells
            have y2 := y 2
            have zf0 := zf 0
            have zf1 := zf 1
            have zf2 := zf 2
            clear y zf
            go_wp2_with fail
            obtain ⟨q1, q2, q3, q4, q5⟩ := hQ.out.fin
            generalize (((w3.setCell ⟨b, 0, none⟩ (.int .i64 f)).setCell ⟨b, 1, none⟩ (.int .i64 0)).setCell ⟨b, 2, none⟩ (.slice A n c)) = w' at q1 q2 q3 q4 ⊢
            refine bodyPost_ret (v := .agg #[.int .i64 f, .int .i64 0, .slice A n c]) ?_ rfl ⟨A, n, c, rfl, q2, q5, .inl ⟨flush l t, i, hE2.out, hil, q3, hQ.out.n, q4⟩⟩
            exact results_cell1 rfl _ _ b 38 _ (0, 0) _ rfl q1 Try.underlying38 rfl (by kernel_rfl)
          · replace hb2 : endB ch = false := by simpa using hb2
            have hen := Lib.hid (fun w => end_ref w ch false hb2)
            have hst : stopB ch = false := by unfold stopB; rw [hb1, hb2]; rfl
            clear hstep hb1 hb2
            go_wp2_with fail
            go_quiet ((first | (go_at_call 30; exact (hmo.out _).mono (fun e w' h => ⟨h.1, drawn_over h.2⟩)) | (go_at_call 31; exact (hbl.out _).mono (fun e w' h => ⟨h.1, _, h.2⟩)) | (go_at_call 32; exact (hen.out _).mono (fun e w' h => ⟨h.1, _, h.2⟩))))
            replace hQ := Lib.hid (hQ.out.chg ((Chg.refl [] wr).drewN nq))
            clear hmo hbl hen c0 c1
            generalize wr.drewN nq = w5 at hQ ⊢
            go_upto_region 3 with fail
            have hQ6 := Lib.hid (hQ.out.chg (Chg.refl [] w5).drew)
            obtain ⟨⟨-, -, x2⟩, -, -, -⟩ := hQ6.out.cells
            obtain ⟨-, c1, -, -, -⟩ := hQ6.out.P.c0
            have hO := hQ6.out.O
            have hP := hQ6.out.P
            have hg2 := hQ6.out.g
            have hl2 := hQ6.out.l
            have hn2 := hQ6.out.n
            have hcall := Lib.hid (hone.out w5.drew (b + 2) i ch A n c l t hsc hst hol hn2.symm hl ht (by omega) hO (by omega) hl2 hP)
            clear hO hP hg2 hl2 hn2 hQ
            refine wp_region_any (by kernel_rfl) ?_
            (try (change wpAny _ _ _ _ _ _ _ (World.drew _)))
            refine wpAny_take (i := 0) (v := ?_) rfl (by kernel_rfl) (by kernel_rfl) (by kernel_rfl) (fun _ _ _ h => h) (Or.inl ⟨by kernel_rfl, ?_⟩) ?_
            rotate_left
            · (intro w; go_simp; try with_reducible rfl)
            change wpAny _ _ _ _ _ _ (Act.put _ (some 37) _) _
            (try simp only [Act.put, List.setIfInBounds_toArray, List.set_cons_zero, List.set_cons_succ])
            (generalize World.drew w5 = w6 at hQ6 x2 c1 hcall ⊢)
            refine wpAny_take (i := 1) (v := ?_) rfl (by kernel_rfl) (by kernel_rfl) (by kernel_rfl) (fun _ _ _ h => h) (Or.inl ⟨by kernel_rfl, ?_⟩) ?_
            rotate_left
            · (intro w; go_simp; try with_reducible rfl)
            change wpAny _ _ _ _ _ _ (Act.put _ (some 38) _) _
            (try simp only [Act.put, List.setIfInBounds_toArray, List.set_cons_zero, List.set_cons_succ])
            refine wpAny_take (i := 3) (v := ?_) rfl (by kernel_rfl) (by kernel_rfl) (by kernel_rfl) (fun _ _ _ h => h) (Or.inl ⟨by kernel_rfl, ?_⟩) ?_
            rotate_left
            · (intro w; go_simp; try with_reducible rfl)
            change wpAny _ _ _ _ _ _ (Act.put _ (some 40) _) _
            (try simp only [Act.put, List.setIfInBounds_toArray, List.set_cons_zero, List.set_cons_succ])
            refine wpAny_take (i := 4) (v := ?_) rfl (by kernel_rfl) (by kernel_rfl) (by kernel_rfl) (fun _ _ _ h => h) (Or.inl ⟨by kernel_rfl, ?_⟩) ?_
            rotate_left
            · (intro w; go_simp; try with_reducible rfl)
            change wpAny _ _ _ _ _ _ (Act.put _ (some 41) _) _
            (try simp only [Act.put, List.setIfInBounds_toArray, List.set_cons_zero, List.set_cons_succ])
            refine wpAny_take (i := 5) (v := ?_) rfl (by kernel_rfl) (by kernel_rfl) (by kernel_rfl) (fun _ _ _ h => h) (Or.inl ⟨by kernel_rfl, ?_⟩) ?_
            rotate_left
            · (intro w; go_simp; try with_reducible rfl)
            change wpAny _ _ _ _ _ _ (Act.put _ (some 42) _) _
            (try simp only [Act.put, List.setIfInBounds_toArray, List.set_cons_zero, List.set_cons_succ])
            refine wpAny_ready (rs := [2, 6]) (by kernel_rfl) (by simp) ?_
            refine AllReady.cons rfl (fun K hK => ?_) ?_
            · go_simp
              (try (refine hK _ _ ?_; clear hK K))
              (try simp only [Act.put, List.setIfInBounds_toArray, List.set_cons_zero, List.set_cons_succ])
              refine wpAny_ready (rs := [6]) (by kernel_rfl) (by simp) ?_
              refine AllReady.cons rfl (fun K hK => ?_) ?_
              · go_simp
                (try (refine hK _ _ ?_; clear hK K))
                (try simp only [Act.put, List.setIfInBounds_toArray, List.set_cons_zero, List.set_cons_succ])
                refine wpAny_ready (rs := [7]) (by kernel_rfl) (by simp) ?_
                refine AllReady.cons rfl (fun K hK => ?_) ?_
                · go_simp
                  go_wp2_with (first
                      | (refine (hcall.out).mono ?_; rintro e' w7 ⟨A', n', c', rfl, hC4, -, l', t', hol', hn', hO4, hcase⟩; replace hn' := Lib.hid hn'))
                  (try (refine hK _ _ ?_; clear hK K))
                  (try simp only [Act.put, List.setIfInBounds_toArray, List.set_cons_zero, List.set_cons_succ])
                  (have hi' : ∃ i' e' a' : Int, RP w7 g B i' e' a' v0 := (by rcases hcase with ⟨j, _, _, _, _, _, h⟩ | ⟨p, q, _, _, h⟩; exact ⟨_, _, _, h⟩; exact ⟨_, _, _, h⟩); obtain ⟨x2a, y2a, hQ5⟩ : w7.cell? ⟨b + 1, 2, none⟩ = some (.slice A n c) ∧ w7.frozen? ⟨b + 1, 2, none⟩ = false ∧ ∀ i' e' a' : Int, RP w7 g B i' e' a' v0 → QS w (w7.setCell ⟨b + 1, 2, none⟩ (.slice A' n' c')) g b B i' e' a' v0 f 0 A' n' c' (flush l' t') := (by obtain ⟨i', e', a', hp⟩ := hi'; have h1 := hQ6.out.one hC4 hO4 hn'.out hp; exact ⟨h1.1, h1.2.1, fun _ _ _ hp => (hQ6.out.one hC4 hO4 hn'.out hp).2.2⟩); replace hQ5 := Lib.hid hQ5; replace hcase := Lib.hid hcase; clear x2 c1 hC4 hO4 hcall hi' hQ6)
                  refine wpAny_take (i := 8) (v := ?_) rfl (by kernel_rfl) (by kernel_rfl) (by kernel_rfl) (fun _ _ _ h => h) (Or.inl ⟨by kernel_rfl, ?_⟩) ?_
                  rotate_left
                  · (intro w; go_simp; try with_reducible rfl)
                  change wpAny _ _ _ _ _ _ (Act.put _ (some 45) _) _
                  (try simp only [Act.put, List.setIfInBounds_toArray, List.set_cons_zero, List.set_cons_succ])
                  refine wpAny_ready (rs := [9]) (by kernel_rfl) (by simp) ?_
                  refine AllReady.cons rfl (fun K hK => ?_) ?_
                  · go_simp
                    (try (refine hK _ _ ?_; clear hK K))
                    (try simp only [Act.put, List.setIfInBounds_toArray, List.set_cons_zero, List.set_cons_succ])
                    refine wpAny_done (by kernel_rfl) ?_ _
                    (try simp only [Act.put, List.setIfInBounds_toArray, List.set_cons_zero, List.set_cons_succ])
                    go_wp2_with fail
                    rcases hcase.out with ⟨j, hj1, hj2, hj3, hj4, hj5, hp⟩ | ⟨p, q, he, hq0, hp⟩
                    · go_roundg (s.length + 1 - j)
                      case measure => omega
                      case rel => exact ⟨j, 0, a, A', n', c', l', t', Lib.hid (hQ5.out _ _ _ hp), hj2, by omega, .inl ⟨rfl, rfl, rfl, Lib.hid (hE.out.trans hj5), hol', hj3, hj4⟩⟩
                    · go_roundg 0
                      case measure => omega
                      case rel => exact ⟨i, q, p, A', n', c', l', t', Lib.hid (hQ5.out _ _ _ hp), by omega, hfi, .inr ⟨rfl, p, q, rfl, rfl, hq0, Lib.hid (hE.out.trans he)⟩⟩
                  exact AllReady.nil
                exact AllReady.nil
              exact AllReady.nil
            refine AllReady.cons rfl (fun K hK => ?_) ?_
            · go_simp
              (try (refine hK _ _ ?_; clear hK K))
              (try simp only [Act.put, List.setIfInBounds_toArray, List.set_cons_zero, List.set_cons_succ])
              refine wpAny_ready (rs := [2]) (by kernel_rfl) (by simp) ?_
              refine AllReady.cons rfl (fun K hK => ?_) ?_
              · go_simp
                (try (refine hK _ _ ?_; clear hK K))
                (try simp only [Act.put, List.setIfInBounds_toArray, List.set_cons_zero, List.set_cons_succ])
                refine wpAny_ready (rs := [7]) (by kernel_rfl) (by simp) ?_
                refine AllReady.cons rfl (fun K hK => ?_) ?_
                · go_simp
                  go_wp2_with (first
                      | (refine (hcall.out).mono ?_; rintro e' w7 ⟨A', n', c', rfl, hC4, -, l', t', hol', hn', hO4, hcase⟩; replace hn' := Lib.hid hn'))
                  (try (refine hK _ _ ?_; clear hK K))
                  (try simp only [Act.put, List.setIfInBounds_toArray, List.set_cons_zero, List.set_cons_succ])
                  (have hi' : ∃ i' e' a' : Int, RP w7 g B i' e' a' v0 := (by rcases hcase with ⟨j, _, _, _, _, _, h⟩ | ⟨p, q, _, _, h⟩; exact ⟨_, _, _, h⟩; exact ⟨_, _, _, h⟩); obtain ⟨x2a, y2a, hQ5⟩ : w7.cell? ⟨b + 1, 2, none⟩ = some (.slice A n c) ∧ w7.frozen? ⟨b + 1, 2, none⟩ = false ∧ ∀ i' e' a' : Int, RP w7 g B i' e' a' v0 → QS w (w7.setCell ⟨b + 1, 2, none⟩ (.slice A' n' c')) g b B i' e' a' v0 f 0 A' n' c' (flush l' t') := (by obtain ⟨i', e', a', hp⟩ := hi'; have h1 := hQ6.out.one hC4 hO4 hn'.out hp; exact ⟨h1.1, h1.2.1, fun _ _ _ hp => (hQ6.out.one hC4 hO4 hn'.out hp).2.2⟩); replace hQ5 := Lib.hid hQ5; replace hcase := Lib.hid hcase; clear x2 c1 hC4 hO4 hcall hi' hQ6)
                  refine wpAny_take (i := 8) (v := ?_) rfl (by kernel_rfl) (by kernel_rfl) (by kernel_rfl) (fun _ _ _ h => h) (Or.inl ⟨by kernel_rfl, ?_⟩) ?_
                  rotate_left
                  · (intro w; go_simp; try with_reducible rfl)
                  change wpAny _ _ _ _ _ _ (Act.put _ (some 45) _) _
                  (try simp only [Act.put, List.setIfInBounds_toArray, List.set_cons_zero, List.set_cons_succ])
                  refine wpAny_ready (rs := [9]) (by kernel_rfl) (by simp) ?_
                  refine AllReady.cons rfl (fun K hK => ?_) ?_
                  · go_simp
                    (try (refine hK _ _ ?_; clear hK K))
                    (try simp only [Act.put, List.setIfInBounds_toArray, List.set_cons_zero, List.set_cons_succ])
                    refine wpAny_done (by kernel_rfl) ?_ _
                    (try simp only [Act.put, List.setIfInBounds_toArray, List.set_cons_zero, List.set_cons_succ])
                    go_wp2_with fail
                    rcases hcase.out with ⟨j, hj1, hj2, hj3, hj4, hj5, hp⟩ | ⟨p, q, he, hq0, hp⟩
                    · go_roundg (s.length + 1 - j)
                      case measure => omega
                      case rel => exact ⟨j, 0, a, A', n', c', l', t', Lib.hid (hQ5.out _ _ _ hp), hj2, by omega, .inl ⟨rfl, rfl, rfl, Lib.hid (hE.out.trans hj5), hol', hj3, hj4⟩⟩
                    · go_roundg 0
                      case measure => omega
                      case rel => exact ⟨i, q, p, A', n', c', l', t', Lib.hid (hQ5.out _ _ _ hp), by omega, hfi, .inr ⟨rfl, p, q, rfl, rfl, hq0, Lib.hid (hE.out.trans he)⟩⟩
                  exact AllReady.nil
                exact AllReady.nil
              exact AllReady.nil
            exact AllReady.nil
      · obtain rfl : i = s.length := by omega
        have hE2 := Lib.hid (hE.out.trans (parts_none (List.getElem?_eq_none (Nat.le_refl _))))
        have hmo := Lib.hid (fun m => more_ref0 (wr.drewN m) g B s.length 0 a v0 (hQ.out.P.chg ((Chg.refl [] wr).drewN m) (by simp)) false (by simp; omega))
        go_wp2_with fail
        go_quiet ((go_at_call 30; exact (hmo.out _).mono (fun e w' h => ⟨h.1, drawn_over h.2⟩)))
        replace hQ := Lib.hid (hQ.out.chg ((Chg.refl [] wr).drewN nq))
        clear hmo
        try clear hbl
        try clear hen
        try clear c0 c1
        generalize wr.drewN nq = w3 at hQ ⊢
        obtain ⟨⟨x0, x1, x2⟩, y, ⟨z0, z1, z2⟩, zf⟩ := hQ.out.cells
        have y2 := y 2
        have zf0 := zf 0
        have zf1 := zf 1
        have zf2 := zf 2
        clear y zf
        go_wp2_with fail
        obtain ⟨q1, q2, q3, q4, q5⟩ := hQ.out.fin
        generalize (((w3.setCell ⟨b, 0, none⟩ (.int .i64 f)).setCell ⟨b, 1, none⟩ (.int .i64 0)).setCell ⟨b, 2, none⟩ (.slice A n c)) = w' at q1 q2 q3 q4 ⊢
        refine bodyPost_ret (v := .agg #[.int .i64 f, .int .i64 0, .slice A n c]) ?_ rfl ⟨A, n, c, rfl, q2, q5, .inl ⟨flush l t, s.length, hE2.out, hil, q3, hQ.out.n, q4⟩⟩
        exact results_cell1 rfl _ _ b 38 _ (0, 0) _ rfl q1 Try.underlying38 rfl (by kernel_rfl)
    · have hmo := Lib.hid (fun m => more_ref0 (wr.drewN m) g B i q p v0 (hQ.out.P.chg ((Chg.refl [] wr).drewN m) (by simp)) false (by have : (q : Int) ≠ 0 := by omega
                                                                                                                                      simp [this]; intro h; omega))
      go_wp2_with fail
      go_quiet ((go_at_call 30; exact (hmo.out _).mono (fun e w' h => ⟨h.1, drawn_over h.2⟩)))
      replace hQ := Lib.hid (hQ.out.chg ((Chg.refl [] wr).drewN nq))
      clear hmo
      try clear hbl
      try clear hen
      try clear c0 c1
      generalize wr.drewN nq = w3 at hQ ⊢
      obtain ⟨⟨x0, x1, x2⟩, y, ⟨z0, z1, z2⟩, zf⟩ := hQ.out.cells
      have y2 := y 2
      have zf0 := zf 0
      have zf1 := zf 1
      have zf2 := zf 2
      clear y zf
      go_wp2_with fail
      obtain ⟨q1, q2, q3, q4, q5⟩ := hQ.out.fin
      generalize (((w3.setCell ⟨b, 0, none⟩ (.int .i64 f)).setCell ⟨b, 1, none⟩ (.int .i64 0)).setCell ⟨b, 2, none⟩ (.slice A n c)) = w' at q1 q2 q3 q4 ⊢
      refine bodyPost_ret (v := .agg #[.int .i64 f, .int .i64 0, .slice A n c]) ?_ rfl ⟨A, n, c, rfl, q2, q5, .inr ⟨p, q, i, hE.out, hq, q3⟩⟩
      exact results_cell1 rfl _ _ b 38 _ (0, 0) _ rfl q1 Try.underlying38 rfl (by kernel_rfl)
end Rt
end Go.Proofs.Ytakcolililbkjaa
namespace Go.Proofs.Ytakcolililbkjaa
open Go.RowKit Tcl PPlanParses YtakcolililbkjaaW.PrintWords
namespace Rt
/-- A word: the result's block `b`, the word's behind it. -/
structure WQ (w0 wr : World) (g b : Nat) (B : ByteArray) (i e a : Int) (v0 u1 u2 u3 : Value) : Prop where
  P : RP wr g B i e a v0
  R : wr.heap[b]? = some (.cells #[.int .i64 0, .int .i64 0, .slice none 0 0] 38 (0, 0))
  W : wr.heap[b + 1]? = some (.cells #[u1, u2, u3] 38 (0, 0))
  C : Chg [g] w0 wr
  s : w0.heap.size = b
  g : g < b
theorem WQ.chg {w0 wr wr' : World} {g b : Nat} {B : ByteArray} {i e a : Int} {v0 u1 u2 u3 : Value} (h : WQ w0 wr g b B i e a v0 u1 u2 u3) (hc : Chg [] wr wr') : WQ w0 wr' g b B i e a v0 u1 u2 u3 :=
  ⟨h.P.chg hc (by simp), hc.heap h.R (by simp), hc.heap h.W (by simp), h.C.trans (hc.mono (by simp)), h.s, h.g⟩
theorem WQ.fail {w0 wr wr' : World} {g b : Nat} {B : ByteArray} {i e a i' e' a' : Int} {v0 u1 u2 u3 : Value} (h : WQ w0 wr g b B i e a v0 u1 u2 u3) (hc : Chg [g] wr wr') (hp : RP wr' g B i' e' a' v0) : WQ w0 wr' g b B i' e' a' v0 u1 u2 u3 :=
  ⟨hp, hc.heap h.R (by have := h.g; simp; omega), hc.heap h.W (by have := h.g; simp; omega), h.C.trans hc, h.s, h.g⟩
theorem WQ.cells {w0 wr : World} {g b : Nat} {B : ByteArray} {i e a : Int} {v0 u1 u2 u3 : Value} (h : WQ w0 wr g b B i e a v0 u1 u2 u3) :
    (wr.cell? ⟨b + 1, 0, none⟩ = some u1 ∧ wr.cell? ⟨b + 1, 1, none⟩ = some u2 ∧ wr.cell? ⟨b + 1, 2, none⟩ = some u3) ∧ (∀ k, wr.frozen? ⟨b + 1, k, none⟩ = false) ∧
    (wr.cell? ⟨b, 0, none⟩ = some (.int .i64 0) ∧ wr.cell? ⟨b, 1, none⟩ = some (.int .i64 0) ∧ wr.cell? ⟨b, 2, none⟩ = some (.slice none 0 0)) ∧ (∀ k, wr.frozen? ⟨b, k, none⟩ = false) :=
  ⟨word_cells h.W, word_frozen h.W, word_cells h.R, word_frozen h.R⟩
/-- The word is set anew. -/
theorem WQ.set {w0 wr : World} {g b : Nat} {B : ByteArray} {i e a : Int} {v0 u1 u2 u3 : Value} (h : WQ w0 wr g b B i e a v0 u1 u2 u3) (f kd : Int) (v : Value) :
    WQ w0 (((wr.setCell ⟨b + 1, 0, none⟩ (.int .i64 f)).setCell ⟨b + 1, 1, none⟩ (.int .i64 kd)).setCell ⟨b + 1, 2, none⟩ v) g b B i e a v0 (.int .i64 f) (.int .i64 kd) v ∧
    Chg [b + 1] wr (((wr.setCell ⟨b + 1, 0, none⟩ (.int .i64 f)).setCell ⟨b + 1, 1, none⟩ (.int .i64 kd)).setCell ⟨b + 1, 2, none⟩ v) := by
  have hg := h.g
  have h1 : Chg [b + 1] wr (((wr.setCell ⟨b + 1, 0, none⟩ (.int .i64 f)).setCell ⟨b + 1, 1, none⟩ (.int .i64 kd)).setCell ⟨b + 1, 2, none⟩ v) := (((Chg.refl [b + 1] wr).setCell (.inl (by simp)) _).setCell (.inl (by simp)) _).setCell (.inl (by simp)) _
  refine ⟨⟨h.P.chg h1 (by simp; omega), h1.heap h.R (by simp), ?_, h.C.then h1 (fun q hq => .inr (by have := h.s; simp at hq; omega)), h.s, hg⟩, h1⟩
  have := blk_set (blk_set (blk_set h.W 0 (.int .i64 f)) 1 (.int .i64 kd)) 2 v
  simpa using this
theorem WQ.fin {w0 wr : World} {g b : Nat} {B : ByteArray} {i e a : Int} {v0 v : Value} {f kd : Int} (hP : RP wr g B i e a v0) (hR : wr.heap[b]? = some (.cells #[.int .i64 0, .int .i64 0, .slice none 0 0] 38 (0, 0))) (hC : Chg [g] w0 wr) (hs : w0.heap.size = b) (hg : g < b) :
    (((wr.setCell ⟨b, 0, none⟩ (.int .i64 f)).setCell ⟨b, 1, none⟩ (.int .i64 kd)).setCell ⟨b, 2, none⟩ v).heap[b]? = some (.cells #[.int .i64 f, .int .i64 kd, v] 38 (0, 0)) ∧
    Chg [g] w0 (((wr.setCell ⟨b, 0, none⟩ (.int .i64 f)).setCell ⟨b, 1, none⟩ (.int .i64 kd)).setCell ⟨b, 2, none⟩ v) ∧ RP (((wr.setCell ⟨b, 0, none⟩ (.int .i64 f)).setCell ⟨b, 1, none⟩ (.int .i64 kd)).setCell ⟨b, 2, none⟩ v) g B i e a v0 ∧
    Chg [b] wr (((wr.setCell ⟨b, 0, none⟩ (.int .i64 f)).setCell ⟨b, 1, none⟩ (.int .i64 kd)).setCell ⟨b, 2, none⟩ v) := by
  have h1 : Chg [b] wr (((wr.setCell ⟨b, 0, none⟩ (.int .i64 f)).setCell ⟨b, 1, none⟩ (.int .i64 kd)).setCell ⟨b, 2, none⟩ v) := (((Chg.refl [b] wr).setCell (.inl (by simp)) _).setCell (.inl (by simp)) _).setCell (.inl (by simp)) _
  refine ⟨?_, hC.then h1 (fun q hq => .inr (by simp at hq; omega)), hP.chg h1 (by simp; omega), h1⟩
  have := blk_set (blk_set (blk_set hR 0 (.int .i64 f)) 1 (.int .i64 kd)) 2 v
  simpa using this
theorem WQ.init {w W1 : World} {g b : Nat} {B : ByteArray} {i e a : Int} {v0 : Value} (hP : RP W1 g B i e a v0) (hR : W1.heap[b]? = some (.cells #[.int .i64 0, .int .i64 0, .slice none 0 0] 38 (0, 0))) (hC : Chg [g] w W1) (hs : w.heap.size = b) (hz : W1.heap.size = b + 1) (hg : g < b) :
    WQ w (W1.alloc (.cells #[.int .i64 0, .int .i64 0, .slice none 0 0] 38)) g b B i e a v0 (.int .i64 0) (.int .i64 0) (.slice none 0 0) := by
  refine ⟨hP.chg ((Chg.refl [] W1).alloc _) (by simp), blk_alloc hR _, ?_, hC.alloc _, hs, hg⟩
  have := blk_new W1 (.cells #[.int .i64 0, .int .i64 0, .slice none 0 0] 38)
  rw [hz] at this; exact this
/-- What the reference's `word` tells. -/
def RwEnd (w : World) (g : Nat) (s : List UInt8) (i : Nat) (c : UInt8) (a0 : Int) (v0 : Value) (e : Ending) (w' : World) : Prop :=
  ∃ (f kd : Nat) (A : Option Addr) (n c' : Nat), e = .returned (.agg #[.int .i64 f, .int .i64 kd, .slice A n c']) ∧ Chg [g] w w' ∧ (∀ q, (Value.slice A n c').ownBlock = some q → w.heap.size ≤ q) ∧
    ((∃ ps j, word s i c = .ok (⟨f, kd, ps⟩, j) ∧ n = ps.length ∧ PartsAt w' (.slice A n c') ps ∧ RP w' g (bstr s) j 0 a0 v0)
    ∨ (∃ p q j : Nat, word s i c = .error (p, q) ∧ q ≠ 0 ∧ RP w' g (bstr s) j q p v0))
/-- Behind the call of `braced` or `quoted`. -/
def MidOut (W : World) (g b : Nat) (B : ByteArray) (s : List UInt8) (i kd : Nat) (c : UInt8) (a0 : Int) (v0 : Value) (v : Value) : Prop :=
  (∀ q, v.ownBlock = some q → b + 2 ≤ q) ∧ ((∃ A n cc ps j, v = .slice A n cc ∧ n = ps.length ∧ PartsAt W (.slice A n cc) ps ∧ RP W g B ((j : Nat) : Int) 0 a0 v0 ∧ (behind s j = .ok () → word s i c = .ok (⟨i, kd, ps⟩, j)) ∧ (∀ bd, behind s j = .error bd → word s i c = .error bd))
    ∨ (∃ (A : Option Addr) (n cc p q j : Nat), v = .slice A n cc ∧ word s i c = .error (p, q) ∧ q ≠ 0 ∧ RP W g B j q p v0))
set_option maxRecDepth 100000 in
set_option maxHeartbeats 8000000 in
theorem word_ref (w : World) (g : Nat) (s : List UInt8) (i : Nat) (c : UInt8) (a0 : Int) (v0 : Value) (hs : s.length ≤ 50000) (hc : s[i]? = some c) (h : RP w g (bstr s) i 0 a0 v0) :
    Calls Try.prog 33 #[.pointer (some ⟨g, 0, none⟩)] w (RwEnd w g s i c a0 v0) := by
  have hsz : (bstr s).size = s.length := rfl
  have hil := lt_of_some hc
  have hbr := Lib.hid (fun W (h : s[i]? = some 123) hP => braced_ref W g s i a0 v0 (by omega) h hP)
  have hqu := Lib.hid (fun W hP => quoted_ref W g s i a0 v0 hs hil hP)
  have hba := Lib.hid (fun W hP => bare_ref W g s i a0 v0 hs hil hP)
  obtain ⟨B, hB⟩ : ∃ B, bstr s = B := ⟨_, rfl⟩
  have hby : ∀ i (h : i < B.size), s[i]? = some (B[i]'h) := by rw [← hB]; exact fun i h => byte_of h
  unfold RwEnd
  unfold RbEnd at hbr
  unfold RqEnd at hqu
  unfold RaEnd at hba
  rw [hB] at h hsz hbr hqu hba ⊢
  have hlB : i < B.size := by omega
  have hcB : B[i]'hlB = c := by have := hby i hlB; rw [hc] at this; exact (Option.some.inj this).symm
  have hA1 := (Chg.refl [g] w).alloc (.cells #[.int .i64 0, .int .i64 0, .slice none 0 0] 38)
  have hP1 := h.chg ((Chg.refl [] w).alloc (.cells #[.int .i64 0, .int .i64 0, .slice none 0 0] 38)) (by simp)
  have hR1 := blk_new w (.cells #[.int .i64 0, .int .i64 0, .slice none 0 0] 38)
  have hgl := h.lt
  have hsz1 : (w.alloc (.cells #[.int .i64 0, .int .i64 0, .slice none 0 0] 38)).heap.size = w.heap.size + 1 := Array.size_push ..
  obtain ⟨b, hb⟩ : ∃ b, w.heap.size = b := ⟨_, rfl⟩
  rw [hb] at hsz1 hR1 hgl
  obtain ⟨c0, c1, -, -, -⟩ := hP1.c0
  replace hsz1 := Lib.hid hsz1
  replace hA1 := Lib.hid hA1
  replace hP1 := Lib.hid hP1
  replace hR1 := Lib.hid hR1
  replace hby := Lib.hid hby
  clear h hB
  go_enter Try.func33, Try.ntmps33
  go_wp2_with fail
  by_cases h123 : c = 123
  · subst h123
    go_quiet (fail)
    replace hP1 := Lib.hid (hP1.out.chg ((Chg.refl [] _).drewN nq) (by simp))
    replace hR1 : Hid ((World.drewN _ nq).heap[b]? = _) := Lib.hid (blk_drewN hR1.out nq)
    replace hA1 := Lib.hid (hA1.out.drewN nq)
    have hsz2 : Hid ((World.drewN (w.alloc (.cells #[.int .i64 0, .int .i64 0, .slice none 0 0] 38)) nq).heap.size = b + 1) := Lib.hid (by have := hsz1.out; have := hb; show (w.alloc _).heap.size = _; omega)
    clear c0 c1 hba
    generalize World.drewN (w.alloc (.cells #[.int .i64 0, .int .i64 0, .slice none 0 0] 38)) nq = w1 at hP1 hR1 hA1 hsz2 ⊢
    obtain ⟨b9, hb9⟩ : ∃ b9, b + 1 = b9 := ⟨_, rfl⟩
    have hQ := Lib.hid (WQ.init hP1.out hR1.out hA1.out hb hsz2.out hgl)
    have hsz3 : Hid ((w1.alloc (.cells #[.int .i64 0, .int .i64 0, .slice none 0 0] 38)).heap.size = b + 2) := Lib.hid (by have := hsz2.out; have h2 : (w1.alloc (.cells #[.int .i64 0, .int .i64 0, .slice none 0 0] 38)).heap.size = w1.heap.size + 1 := Array.size_push ..; omega)
    clear hP1 hR1 hA1 hb9 b9
    replace hsz2 := hsz2.out
    go_upto_region 4 with fail
    clear hsz2
    generalize w1.alloc (.cells #[.int .i64 0, .int .i64 0, .slice none 0 0] 38) = w2 at hQ hsz3 ⊢
    obtain ⟨c0, c1, -, -, -⟩ := hQ.out.P.c0
    go_quiet (fail)
    replace hQ := Lib.hid (hQ.out.chg ((Chg.refl [] w2).drewN nq))
    replace hsz3 : Hid ((w2.drewN nq).heap.size = b + 2) := hsz3
    clear c0 c1
    generalize w2.drewN nq = w2 at hQ hsz3 ⊢
    clear hqu
    go_wp2_with fail
    refine (hbr.out w2 hc hQ.out.P).mono ?_
    rintro e w3 ⟨v, rfl, hC3, hcase⟩
    have hmid : MidOut w3 g b B s i 2 123 a0 v0 v := by
      rcases hcase with ⟨j, hj, hP3, hPa, hw⟩ | ⟨p, q, j, hj, hP3, rfl, hq⟩
      · have hPb := hPa
        obtain ⟨A, cc, rfl, -⟩ := hPb
        exact ⟨fun q hq => by have := hw q hq; have := hsz3.out; omega, .inl ⟨A, _, cc, _, j, rfl, rfl, hPa, hP3, fun h => word_b_ok hj h, fun bd h => word_b_bad hj h⟩⟩
      · exact ⟨fun q hq => by simp [Value.ownBlock] at hq, .inr ⟨none, 0, 0, p, q, j, rfl, word_b_err hj, hq, hP3⟩⟩
    replace hmid := Lib.hid hmid
    replace hC3 := Lib.hid hC3
    clear hcase hbr hsz3
    obtain ⟨hv, hcase⟩ := hmid.out
    replace hv := Lib.hid hv
    rcases hcase with ⟨A, n, cc, ps, j, rfl, hn, hPa, hPj, hw1, hw2⟩ | ⟨A, n, cc, p, q, j, rfl, hw, hq, hPj⟩
    · obtain ⟨hQ4, hC4⟩ := (hQ.out.fail hC3.out hPj).set i 2 (.slice A n cc)
      obtain ⟨-, -, ⟨-, -, -⟩, -⟩ := hQ4.cells
      have hPa4 : PartsAt _ (.slice A n cc) ps := Sl.chg hPa hC4 (fun _ q hq hm => by have := hv.out q hq; simp at hm; omega)
      obtain ⟨⟨x0, x1, x2⟩, xf, -, -⟩ := (hQ.out.fail hC3.out hPj).cells
      have xf0 := xf 0
      have xf1 := xf 1
      have xf2 := xf 2
      clear xf
      replace hQ4 := Lib.hid hQ4
      replace hPa4 := Lib.hid hPa4
      replace hn := Lib.hid hn
      replace hw1 := Lib.hid hw1
      replace hw2 := Lib.hid hw2
      clear hQ hC4 hmid hPa hPj hC3
      go_upto_region 7 with fail
      clear x0 x1 x2 xf0 xf1 xf2
      generalize (((w3.setCell ⟨b + 1, 0, none⟩ (.int .i64 i)).setCell ⟨b + 1, 1, none⟩ (.int .i64 2)).setCell ⟨b + 1, 2, none⟩ (.slice A n cc)) = w4 at hQ4 hPa4 ⊢
      have hQ := hQ4
      have hPa := hPa4
      clear hQ4 hPa4
      by_cases hj : j < s.length
      · have hmo := Lib.hid (fun m => more_ref0 (w4.drewN m) g B j 0 a0 v0 (hQ.out.P.chg ((Chg.refl [] w4).drewN m) (by simp)) true (by simp; omega))
        have hjB : j < B.size := by omega
        obtain ⟨ch, hch⟩ : ∃ ch, B[j]'hjB = ch := ⟨_, rfl⟩
        have hsc : s[j]? = some ch := by rw [hby.out j hjB, hch]
        obtain ⟨c0, c1, -, -, -⟩ := hQ.out.P.c0
        by_cases hb1 : blankB ch = true
        · have hbl := Lib.hid (fun w => blank_ref w ch true hb1)
          have hB1 := Lib.hid (behind_ok hsc (show stopB ch = true by unfold stopB; rw [hb1]; rfl))
          clear hb1
          go_wp2_with fail
          go_quiet ((first | (go_at_call 30; exact (hmo.out _).mono (fun e w' h => ⟨h.1, drawn_over h.2⟩)) | (go_at_call 31; exact (hbl.out _).mono (fun e w' h => ⟨h.1, _, h.2⟩)) | (go_at_call 32; exact (hen.out _).mono (fun e w' h => ⟨h.1, _, h.2⟩))))
          replace hQ := Lib.hid (hQ.out.chg ((Chg.refl [] w4).drewN nq))
          clear hmo
          try clear hbl
          try clear hen
          try clear c0 c1
          replace hPa : Hid (PartsAt (w4.drewN nq) (.slice A n cc) ps) := Lib.hid (Sl.chg hPa.out ((Chg.refl [] w4).drewN nq) (by simp))
          generalize w4.drewN nq = w5 at hQ hPa ⊢
          obtain ⟨⟨x0, x1, x2⟩, -, ⟨z0, z1, z2⟩, zf⟩ := hQ.out.cells
          have zf0 := zf 0
          have zf1 := zf 1
          have zf2 := zf 2
          clear zf
          go_wp2_with fail
          obtain ⟨q1, q2, q3, q4⟩ := WQ.fin (v := .slice A n cc) (f := i) (kd := 2) hQ.out.P hQ.out.R hQ.out.C hQ.out.s hQ.out.g
          have q5 : PartsAt _ (.slice A n cc) ps := Sl.chg hPa.out q4 (fun _ q hq hm => by have := hv.out q hq; simp at hm; omega)
          generalize (((w5.setCell ⟨b, 0, none⟩ (.int .i64 i)).setCell ⟨b, 1, none⟩ (.int .i64 2)).setCell ⟨b, 2, none⟩ (.slice A n cc)) = w' at q1 q2 q3 q5 ⊢
          refine bodyPost_ret (v := .agg #[.int .i64 i, .int .i64 2, .slice A n cc]) ?_ rfl ⟨i, 2, A, n, cc, rfl, q2, fun q hq => by have := hv.out q hq; have := hb; omega, .inl ⟨ps, j, hw1.out hB1.out, hn.out, q5, q3⟩⟩
          exact results_cell1 rfl _ _ b 38 _ (0, 0) _ rfl q1 Try.underlying38 rfl (by kernel_rfl)
        · replace hb1 : blankB ch = false := by simpa using hb1
          have hbl := Lib.hid (fun w => blank_ref w ch false hb1)
          by_cases hb2 : endB ch = true
          · have hen := Lib.hid (fun w => end_ref w ch true hb2)
            have hB1 := Lib.hid (behind_ok hsc (show stopB ch = true by unfold stopB; rw [hb2, Bool.or_true]))
            clear hb1 hb2
            go_wp2_with fail
            go_quiet ((first | (go_at_call 30; exact (hmo.out _).mono (fun e w' h => ⟨h.1, drawn_over h.2⟩)) | (go_at_call 31; exact (hbl.out _).mono (fun e w' h => ⟨h.1, _, h.2⟩)) | (go_at_call 32; exact (hen.out _).mono (fun e w' h => ⟨h.1, _, h.2⟩))))
            replace hQ := Lib.hid (hQ.out.chg ((Chg.refl [] w4).drewN nq))
            clear hmo
            try clear hbl
            try clear hen
            try clear c0 c1
            replace hPa : Hid (PartsAt (w4.drewN nq) (.slice A n cc) ps) := Lib.hid (Sl.chg hPa.out ((Chg.refl [] w4).drewN nq) (by simp))
            generalize w4.drewN nq = w5 at hQ hPa ⊢
            obtain ⟨⟨x0, x1, x2⟩, -, ⟨z0, z1, z2⟩, zf⟩ := hQ.out.cells
            have zf0 := zf 0
            have zf1 := zf 1
            have zf2 := zf 2
            clear zf
            go_wp2_with fail
            obtain ⟨q1, q2, q3, q4⟩ := WQ.fin (v := .slice A n cc) (f := i) (kd := 2) hQ.out.P hQ.out.R hQ.out.C hQ.out.s hQ.out.g
            have q5 : PartsAt _ (.slice A n cc) ps := Sl.chg hPa.out q4 (fun _ q hq hm => by have := hv.out q hq; simp at hm; omega)
            generalize (((w5.setCell ⟨b, 0, none⟩ (.int .i64 i)).setCell ⟨b, 1, none⟩ (.int .i64 2)).setCell ⟨b, 2, none⟩ (.slice A n cc)) = w' at q1 q2 q3 q5 ⊢
            refine bodyPost_ret (v := .agg #[.int .i64 i, .int .i64 2, .slice A n cc]) ?_ rfl ⟨i, 2, A, n, cc, rfl, q2, fun q hq => by have := hv.out q hq; have := hb; omega, .inl ⟨ps, j, hw1.out hB1.out, hn.out, q5, q3⟩⟩
            exact results_cell1 rfl _ _ b 38 _ (0, 0) _ rfl q1 Try.underlying38 rfl (by kernel_rfl)
          · replace hb2 : endB ch = false := by simpa using hb2
            have hen := Lib.hid (fun w => end_ref w ch false hb2)
            have hE := Lib.hid (hw2.out _ (behind_bad hsc (show stopB ch = false by unfold stopB; rw [hb1, hb2]; rfl)))
            clear hb1 hb2
            go_wp2_with fail
            go_quiet ((first | (go_at_call 30; exact (hmo.out _).mono (fun e w' h => ⟨h.1, drawn_over h.2⟩)) | (go_at_call 31; exact (hbl.out _).mono (fun e w' h => ⟨h.1, _, h.2⟩)) | (go_at_call 32; exact (hen.out _).mono (fun e w' h => ⟨h.1, _, h.2⟩))))
            replace hQ := Lib.hid (hQ.out.chg ((Chg.refl [] w4).drewN nq))
            clear hmo
            try clear hbl
            try clear hen
            try clear c0 c1
            replace hPa : Hid (PartsAt (w4.drewN nq) (.slice A n cc) ps) := Lib.hid (Sl.chg hPa.out ((Chg.refl [] w4).drewN nq) (by simp))
            generalize w4.drewN nq = w5 at hQ hPa ⊢
            obtain ⟨-, c1, -, -, -⟩ := hQ.out.P.c0
            go_wp2_with fail
            refine (fail_ref _ g B j a0 j 4 v0 hQ.out.P).mono ?_
            rintro e' w6 ⟨rfl, hP6, hC6⟩
            replace hQ := Lib.hid (hQ.out.fail hC6 hP6)
            clear c1 hP6 hC6
            obtain ⟨⟨x0, x1, x2⟩, -, ⟨z0, z1, z2⟩, zf⟩ := hQ.out.cells
            have zf0 := zf 0
            have zf1 := zf 1
            have zf2 := zf 2
            clear zf
            go_wp2_with fail
            obtain ⟨q1, q2, q3, q4⟩ := WQ.fin (v := .slice A n cc) (f := i) (kd := 2) hQ.out.P hQ.out.R hQ.out.C hQ.out.s hQ.out.g
            generalize (((w6.setCell ⟨b, 0, none⟩ (.int .i64 i)).setCell ⟨b, 1, none⟩ (.int .i64 2)).setCell ⟨b, 2, none⟩ (.slice A n cc)) = w' at q1 q2 q3 ⊢
            refine bodyPost_ret (v := .agg #[.int .i64 i, .int .i64 2, .slice A n cc]) ?_ rfl ⟨i, 2, A, n, cc, rfl, q2, fun q hq => by have := hv.out q hq; have := hb; omega, .inr ⟨j, 4, j, hE.out, by decide, q3⟩⟩
            exact results_cell1 rfl _ _ b 38 _ (0, 0) _ rfl q1 Try.underlying38 rfl (by kernel_rfl)
      · have hB1 := Lib.hid (behind_none (s := s) (j := j) (by omega))
        have hmo := Lib.hid (fun m => more_ref0 (w4.drewN m) g B j 0 a0 v0 (hQ.out.P.chg ((Chg.refl [] w4).drewN m) (by simp)) false (by simp; omega))
        go_wp2_with fail
        go_quiet ((go_at_call 30; exact (hmo.out _).mono (fun e w' h => ⟨h.1, drawn_over h.2⟩)))
        replace hQ := Lib.hid (hQ.out.chg ((Chg.refl [] w4).drewN nq))
        clear hmo
        try clear hbl
        try clear hen
        try clear c0 c1
        replace hPa : Hid (PartsAt (w4.drewN nq) (.slice A n cc) ps) := Lib.hid (Sl.chg hPa.out ((Chg.refl [] w4).drewN nq) (by simp))
        generalize w4.drewN nq = w5 at hQ hPa ⊢
        obtain ⟨⟨x0, x1, x2⟩, -, ⟨z0, z1, z2⟩, zf⟩ := hQ.out.cells
        have zf0 := zf 0
        have zf1 := zf 1
        have zf2 := zf 2
        clear zf
        go_wp2_with fail
        obtain ⟨q1, q2, q3, q4⟩ := WQ.fin (v := .slice A n cc) (f := i) (kd := 2) hQ.out.P hQ.out.R hQ.out.C hQ.out.s hQ.out.g
        have q5 : PartsAt _ (.slice A n cc) ps := Sl.chg hPa.out q4 (fun _ q hq hm => by have := hv.out q hq; simp at hm; omega)
        generalize (((w5.setCell ⟨b, 0, none⟩ (.int .i64 i)).setCell ⟨b, 1, none⟩ (.int .i64 2)).setCell ⟨b, 2, none⟩ (.slice A n cc)) = w' at q1 q2 q3 q5 ⊢
        refine bodyPost_ret (v := .agg #[.int .i64 i, .int .i64 2, .slice A n cc]) ?_ rfl ⟨i, 2, A, n, cc, rfl, q2, fun q hq => by have := hv.out q hq; have := hb; omega, .inl ⟨ps, j, hw1.out hB1.out, hn.out, q5, q3⟩⟩
        exact results_cell1 rfl _ _ b 38 _ (0, 0) _ rfl q1 Try.underlying38 rfl (by kernel_rfl)
    · obtain ⟨hQ4, hC4⟩ := (hQ.out.fail hC3.out hPj).set i 2 (.slice A n cc)
      obtain ⟨⟨x0, x1, x2⟩, xf, -, -⟩ := (hQ.out.fail hC3.out hPj).cells
      have xf0 := xf 0
      have xf1 := xf 1
      have xf2 := xf 2
      clear xf
      replace hQ4 := Lib.hid hQ4
      replace hw := Lib.hid hw
      clear hQ hC4 hmid hPj hC3
      go_upto_region 7 with fail
      clear x0 x1 x2 xf0 xf1 xf2
      generalize (((w3.setCell ⟨b + 1, 0, none⟩ (.int .i64 i)).setCell ⟨b + 1, 1, none⟩ (.int .i64 2)).setCell ⟨b + 1, 2, none⟩ (.slice A n cc)) = w4 at hQ4 ⊢
      have hQ := hQ4
      clear hQ4
      have hmo := Lib.hid (fun m => more_ref0 (w4.drewN m) g B j q p v0 (hQ.out.P.chg ((Chg.refl [] w4).drewN m) (by simp)) false (by have h9 : (q : Int) ≠ 0 := (by omega); simp [h9]; intro h; omega))
      go_wp2_with fail
      go_quiet ((go_at_call 30; exact (hmo.out _).mono (fun e w' h => ⟨h.1, drawn_over h.2⟩)))
      replace hQ := Lib.hid (hQ.out.chg ((Chg.refl [] w4).drewN nq))
      clear hmo
      try clear hbl
      try clear hen
      try clear c0 c1
      generalize w4.drewN nq = w5 at hQ ⊢
      obtain ⟨⟨x0, x1, x2⟩, -, ⟨z0, z1, z2⟩, zf⟩ := hQ.out.cells
      have zf0 := zf 0
      have zf1 := zf 1
      have zf2 := zf 2
      clear zf
      go_wp2_with fail
      obtain ⟨q1, q2, q3, q4⟩ := WQ.fin (v := .slice A n cc) (f := i) (kd := 2) hQ.out.P hQ.out.R hQ.out.C hQ.out.s hQ.out.g
      generalize (((w5.setCell ⟨b, 0, none⟩ (.int .i64 i)).setCell ⟨b, 1, none⟩ (.int .i64 2)).setCell ⟨b, 2, none⟩ (.slice A n cc)) = w' at q1 q2 q3 ⊢
      refine bodyPost_ret (v := .agg #[.int .i64 i, .int .i64 2, .slice A n cc]) ?_ rfl ⟨i, 2, A, n, cc, rfl, q2, fun q hq => by have := hv.out q hq; have := hb; omega, .inr ⟨p, q, j, hw.out, hq, q3⟩⟩
      exact results_cell1 rfl _ _ b 38 _ (0, 0) _ rfl q1 Try.underlying38 rfl (by kernel_rfl)
  · have e123 := u8n (n := 123) h123
    have n123 : ((c.toNat : Int) != 123) = true := by simp only [bne]; rw [show ((c.toNat : Int) == 123) = false from e123]; rfl
    by_cases h34 : c = 34
    · subst h34
      go_quiet (fail)
      replace hP1 := Lib.hid (hP1.out.chg ((Chg.refl [] _).drewN nq) (by simp))
      replace hR1 : Hid ((World.drewN _ nq).heap[b]? = _) := Lib.hid (blk_drewN hR1.out nq)
      replace hA1 := Lib.hid (hA1.out.drewN nq)
      have hsz2 : Hid ((World.drewN (w.alloc (.cells #[.int .i64 0, .int .i64 0, .slice none 0 0] 38)) nq).heap.size = b + 1) := Lib.hid (by have := hsz1.out; have := hb; show (w.alloc _).heap.size = _; omega)
      clear c0 c1 hba
      generalize World.drewN (w.alloc (.cells #[.int .i64 0, .int .i64 0, .slice none 0 0] 38)) nq = w1 at hP1 hR1 hA1 hsz2 ⊢
      obtain ⟨b9, hb9⟩ : ∃ b9, b + 1 = b9 := ⟨_, rfl⟩
      have hQ := Lib.hid (WQ.init hP1.out hR1.out hA1.out hb hsz2.out hgl)
      have hsz3 : Hid ((w1.alloc (.cells #[.int .i64 0, .int .i64 0, .slice none 0 0] 38)).heap.size = b + 2) := Lib.hid (by have := hsz2.out; have h2 : (w1.alloc (.cells #[.int .i64 0, .int .i64 0, .slice none 0 0] 38)).heap.size = w1.heap.size + 1 := Array.size_push ..; omega)
      clear hP1 hR1 hA1 hb9 b9
      replace hsz2 := hsz2.out
      go_upto_region 4 with fail
      clear hsz2
      generalize w1.alloc (.cells #[.int .i64 0, .int .i64 0, .slice none 0 0] 38) = w2 at hQ hsz3 ⊢
      obtain ⟨c0, c1, -, -, -⟩ := hQ.out.P.c0
      go_quiet (fail)
      replace hQ := Lib.hid (hQ.out.chg ((Chg.refl [] w2).drewN nq))
      replace hsz3 : Hid ((w2.drewN nq).heap.size = b + 2) := hsz3
      clear c0 c1
      generalize w2.drewN nq = w2 at hQ hsz3 ⊢
      clear hbr
      go_wp2_with fail
      refine (hqu.out w2 hQ.out.P).mono ?_
      rintro e w3 ⟨A, n, cc, rfl, hC3, hw, hcase⟩
      generalize hvv : Value.slice A n cc = v at hw hcase ⊢
      have hmid : MidOut w3 g b B s i 1 34 a0 v0 v := by
        subst hvv
        refine ⟨fun q hq => by have := hw q hq; have := hsz3.out; omega, ?_⟩
        rcases hcase with ⟨r, j, hj, hjl, hP3, hn, hPa⟩ | ⟨p, q, j, hj, hq, hP3⟩
        · exact .inl ⟨A, n, cc, r, j + 1, rfl, hn, hPa, hP3, fun h => word_q_ok hj (by omega) h, fun bd h => word_q_bad hj (by omega) h⟩
        · refine .inr ⟨A, n, cc, p, q, j, rfl, ?_, hq, hP3⟩
          rcases hj with hj | ⟨r, hj, rfl, rfl⟩
          · exact word_q_err hj
          · exact word_q_short hj
      replace hmid := Lib.hid hmid
      replace hC3 := Lib.hid hC3
      clear hcase hqu hsz3 hw hvv
      obtain ⟨hv, hcase⟩ := hmid.out
      replace hv := Lib.hid hv
      rcases hcase with ⟨A, n, cc, ps, j, rfl, hn, hPa, hPj, hw1, hw2⟩ | ⟨A, n, cc, p, q, j, rfl, hw, hq, hPj⟩
      · obtain ⟨hQ4, hC4⟩ := (hQ.out.fail hC3.out hPj).set i 1 (.slice A n cc)
        obtain ⟨-, -, ⟨-, -, -⟩, -⟩ := hQ4.cells
        have hPa4 : PartsAt _ (.slice A n cc) ps := Sl.chg hPa hC4 (fun _ q hq hm => by have := hv.out q hq; simp at hm; omega)
        obtain ⟨⟨x0, x1, x2⟩, xf, -, -⟩ := (hQ.out.fail hC3.out hPj).cells
        have xf0 := xf 0
        have xf1 := xf 1
        have xf2 := xf 2
        clear xf
        replace hQ4 := Lib.hid hQ4
        replace hPa4 := Lib.hid hPa4
        replace hn := Lib.hid hn
        replace hw1 := Lib.hid hw1
        replace hw2 := Lib.hid hw2
        clear hQ hC4 hmid hPa hPj hC3
        go_upto_region 7 with fail
        clear x0 x1 x2 xf0 xf1 xf2
        generalize (((w3.setCell ⟨b + 1, 0, none⟩ (.int .i64 i)).setCell ⟨b + 1, 1, none⟩ (.int .i64 1)).setCell ⟨b + 1, 2, none⟩ (.slice A n cc)) = w4 at hQ4 hPa4 ⊢
        have hQ := hQ4
        have hPa := hPa4
        clear hQ4 hPa4
        by_cases hj : j < s.length
        · have hmo := Lib.hid (fun m => more_ref0 (w4.drewN m) g B j 0 a0 v0 (hQ.out.P.chg ((Chg.refl [] w4).drewN m) (by simp)) true (by simp; omega))
          have hjB : j < B.size := by omega
          obtain ⟨ch, hch⟩ : ∃ ch, B[j]'hjB = ch := ⟨_, rfl⟩
          have hsc : s[j]? = some ch := by rw [hby.out j hjB, hch]
          obtain ⟨c0, c1, -, -, -⟩ := hQ.out.P.c0
          by_cases hb1 : blankB ch = true
          · have hbl := Lib.hid (fun w => blank_ref w ch true hb1)
            have hB1 := Lib.hid (behind_ok hsc (show stopB ch = true by unfold stopB; rw [hb1]; rfl))
            clear hb1
            go_wp2_with fail
            go_quiet ((first | (go_at_call 30; exact (hmo.out _).mono (fun e w' h => ⟨h.1, drawn_over h.2⟩)) | (go_at_call 31; exact (hbl.out _).mono (fun e w' h => ⟨h.1, _, h.2⟩)) | (go_at_call 32; exact (hen.out _).mono (fun e w' h => ⟨h.1, _, h.2⟩))))
            replace hQ := Lib.hid (hQ.out.chg ((Chg.refl [] w4).drewN nq))
            clear hmo
            try clear hbl
            try clear hen
            try clear c0 c1
            replace hPa : Hid (PartsAt (w4.drewN nq) (.slice A n cc) ps) := Lib.hid (Sl.chg hPa.out ((Chg.refl [] w4).drewN nq) (by simp))
            generalize w4.drewN nq = w5 at hQ hPa ⊢
            obtain ⟨⟨x0, x1, x2⟩, -, ⟨z0, z1, z2⟩, zf⟩ := hQ.out.cells
            have zf0 := zf 0
            have zf1 := zf 1
            have zf2 := zf 2
            clear zf
            go_wp2_with fail
            obtain ⟨q1, q2, q3, q4⟩ := WQ.fin (v := .slice A n cc) (f := i) (kd := 1) hQ.out.P hQ.out.R hQ.out.C hQ.out.s hQ.out.g
            have q5 : PartsAt _ (.slice A n cc) ps := Sl.chg hPa.out q4 (fun _ q hq hm => by have := hv.out q hq; simp at hm; omega)
            generalize (((w5.setCell ⟨b, 0, none⟩ (.int .i64 i)).setCell ⟨b, 1, none⟩ (.int .i64 1)).setCell ⟨b, 2, none⟩ (.slice A n cc)) = w' at q1 q2 q3 q5 ⊢
            refine bodyPost_ret (v := .agg #[.int .i64 i, .int .i64 1, .slice A n cc]) ?_ rfl ⟨i, 1, A, n, cc, rfl, q2, fun q hq => by have := hv.out q hq; have := hb; omega, .inl ⟨ps, j, hw1.out hB1.out, hn.out, q5, q3⟩⟩
            exact results_cell1 rfl _ _ b 38 _ (0, 0) _ rfl q1 Try.underlying38 rfl (by kernel_rfl)
          · replace hb1 : blankB ch = false := by simpa using hb1
            have hbl := Lib.hid (fun w => blank_ref w ch false hb1)
            by_cases hb2 : endB ch = true
            · have hen := Lib.hid (fun w => end_ref w ch true hb2)
              have hB1 := Lib.hid (behind_ok hsc (show stopB ch = true by unfold stopB; rw [hb2, Bool.or_true]))
              clear hb1 hb2
              go_wp2_with fail
              go_quiet ((first | (go_at_call 30; exact (hmo.out _).mono (fun e w' h => ⟨h.1, drawn_over h.2⟩)) | (go_at_call 31; exact (hbl.out _).mono (fun e w' h => ⟨h.1, _, h.2⟩)) | (go_at_call 32; exact (hen.out _).mono (fun e w' h => ⟨h.1, _, h.2⟩))))
              replace hQ := Lib.hid (hQ.out.chg ((Chg.refl [] w4).drewN nq))
              clear hmo
              try clear hbl
              try clear hen
              try clear c0 c1
              replace hPa : Hid (PartsAt (w4.drewN nq) (.slice A n cc) ps) := Lib.hid (Sl.chg hPa.out ((Chg.refl [] w4).drewN nq) (by simp))
              generalize w4.drewN nq = w5 at hQ hPa ⊢
              obtain ⟨⟨x0, x1, x2⟩, -, ⟨z0, z1, z2⟩, zf⟩ := hQ.out.cells
              have zf0 := zf 0
              have zf1 := zf 1
              have zf2 := zf 2
              clear zf
              go_wp2_with fail
              obtain ⟨q1, q2, q3, q4⟩ := WQ.fin (v := .slice A n cc) (f := i) (kd := 1) hQ.out.P hQ.out.R hQ.out.C hQ.out.s hQ.out.g
              have q5 : PartsAt _ (.slice A n cc) ps := Sl.chg hPa.out q4 (fun _ q hq hm => by have := hv.out q hq; simp at hm; omega)
              generalize (((w5.setCell ⟨b, 0, none⟩ (.int .i64 i)).setCell ⟨b, 1, none⟩ (.int .i64 1)).setCell ⟨b, 2, none⟩ (.slice A n cc)) = w' at q1 q2 q3 q5 ⊢
              refine bodyPost_ret (v := .agg #[.int .i64 i, .int .i64 1, .slice A n cc]) ?_ rfl ⟨i, 1, A, n, cc, rfl, q2, fun q hq => by have := hv.out q hq; have := hb; omega, .inl ⟨ps, j, hw1.out hB1.out, hn.out, q5, q3⟩⟩
              exact results_cell1 rfl _ _ b 38 _ (0, 0) _ rfl q1 Try.underlying38 rfl (by kernel_rfl)
            · replace hb2 : endB ch = false := by simpa using hb2
              have hen := Lib.hid (fun w => end_ref w ch false hb2)
              have hE := Lib.hid (hw2.out _ (behind_bad hsc (show stopB ch = false by unfold stopB; rw [hb1, hb2]; rfl)))
              clear hb1 hb2
              go_wp2_with fail
              go_quiet ((first | (go_at_call 30; exact (hmo.out _).mono (fun e w' h => ⟨h.1, drawn_over h.2⟩)) | (go_at_call 31; exact (hbl.out _).mono (fun e w' h => ⟨h.1, _, h.2⟩)) | (go_at_call 32; exact (hen.out _).mono (fun e w' h => ⟨h.1, _, h.2⟩))))
              replace hQ := Lib.hid (hQ.out.chg ((Chg.refl [] w4).drewN nq))
              clear hmo
              try clear hbl
              try clear hen
              try clear c0 c1
              replace hPa : Hid (PartsAt (w4.drewN nq) (.slice A n cc) ps) := Lib.hid (Sl.chg hPa.out ((Chg.refl [] w4).drewN nq) (by simp))
              generalize w4.drewN nq = w5 at hQ hPa ⊢
              obtain ⟨-, c1, -, -, -⟩ := hQ.out.P.c0
              go_wp2_with fail
              refine (fail_ref _ g B j a0 j 4 v0 hQ.out.P).mono ?_
              rintro e' w6 ⟨rfl, hP6, hC6⟩
              replace hQ := Lib.hid (hQ.out.fail hC6 hP6)
              clear c1 hP6 hC6
              obtain ⟨⟨x0, x1, x2⟩, -, ⟨z0, z1, z2⟩, zf⟩ := hQ.out.cells
              have zf0 := zf 0
              have zf1 := zf 1
              have zf2 := zf 2
              clear zf
              go_wp2_with fail
              obtain ⟨q1, q2, q3, q4⟩ := WQ.fin (v := .slice A n cc) (f := i) (kd := 1) hQ.out.P hQ.out.R hQ.out.C hQ.out.s hQ.out.g
              generalize (((w6.setCell ⟨b, 0, none⟩ (.int .i64 i)).setCell ⟨b, 1, none⟩ (.int .i64 1)).setCell ⟨b, 2, none⟩ (.slice A n cc)) = w' at q1 q2 q3 ⊢
              refine bodyPost_ret (v := .agg #[.int .i64 i, .int .i64 1, .slice A n cc]) ?_ rfl ⟨i, 1, A, n, cc, rfl, q2, fun q hq => by have := hv.out q hq; have := hb; omega, .inr ⟨j, 4, j, hE.out, by decide, q3⟩⟩
              exact results_cell1 rfl _ _ b 38 _ (0, 0) _ rfl q1 Try.underlying38 rfl (by kernel_rfl)
        · have hB1 := Lib.hid (behind_none (s := s) (j := j) (by omega))
          have hmo := Lib.hid (fun m => more_ref0 (w4.drewN m) g B j 0 a0 v0 (hQ.out.P.chg ((Chg.refl [] w4).drewN m) (by simp)) false (by simp; omega))
          go_wp2_with fail
          go_quiet ((go_at_call 30; exact (hmo.out _).mono (fun e w' h => ⟨h.1, drawn_over h.2⟩)))
          replace hQ := Lib.hid (hQ.out.chg ((Chg.refl [] w4).drewN nq))
          clear hmo
          try clear hbl
          try clear hen
          try clear c0 c1
          replace hPa : Hid (PartsAt (w4.drewN nq) (.slice A n cc) ps) := Lib.hid (Sl.chg hPa.out ((Chg.refl [] w4).drewN nq) (by simp))
          generalize w4.drewN nq = w5 at hQ hPa ⊢
          obtain ⟨⟨x0, x1, x2⟩, -, ⟨z0, z1, z2⟩, zf⟩ := hQ.out.cells
          have zf0 := zf 0
          have zf1 := zf 1
          have zf2 := zf 2
          clear zf
          go_wp2_with fail
          obtain ⟨q1, q2, q3, q4⟩ := WQ.fin (v := .slice A n cc) (f := i) (kd := 1) hQ.out.P hQ.out.R hQ.out.C hQ.out.s hQ.out.g
          have q5 : PartsAt _ (.slice A n cc) ps := Sl.chg hPa.out q4 (fun _ q hq hm => by have := hv.out q hq; simp at hm; omega)
          generalize (((w5.setCell ⟨b, 0, none⟩ (.int .i64 i)).setCell ⟨b, 1, none⟩ (.int .i64 1)).setCell ⟨b, 2, none⟩ (.slice A n cc)) = w' at q1 q2 q3 q5 ⊢
          refine bodyPost_ret (v := .agg #[.int .i64 i, .int .i64 1, .slice A n cc]) ?_ rfl ⟨i, 1, A, n, cc, rfl, q2, fun q hq => by have := hv.out q hq; have := hb; omega, .inl ⟨ps, j, hw1.out hB1.out, hn.out, q5, q3⟩⟩
          exact results_cell1 rfl _ _ b 38 _ (0, 0) _ rfl q1 Try.underlying38 rfl (by kernel_rfl)
      · obtain ⟨hQ4, hC4⟩ := (hQ.out.fail hC3.out hPj).set i 1 (.slice A n cc)
        obtain ⟨⟨x0, x1, x2⟩, xf, -, -⟩ := (hQ.out.fail hC3.out hPj).cells
        have xf0 := xf 0
        have xf1 := xf 1
        have xf2 := xf 2
        clear xf
        replace hQ4 := Lib.hid hQ4
        replace hw := Lib.hid hw
        clear hQ hC4 hmid hPj hC3
        go_upto_region 7 with fail
        clear x0 x1 x2 xf0 xf1 xf2
        generalize (((w3.setCell ⟨b + 1, 0, none⟩ (.int .i64 i)).setCell ⟨b + 1, 1, none⟩ (.int .i64 1)).setCell ⟨b + 1, 2, none⟩ (.slice A n cc)) = w4 at hQ4 ⊢
        have hQ := hQ4
        clear hQ4
        have hmo := Lib.hid (fun m => more_ref0 (w4.drewN m) g B j q p v0 (hQ.out.P.chg ((Chg.refl [] w4).drewN m) (by simp)) false (by have h9 : (q : Int) ≠ 0 := (by omega); simp [h9]; intro h; omega))
        go_wp2_with fail
        go_quiet ((go_at_call 30; exact (hmo.out _).mono (fun e w' h => ⟨h.1, drawn_over h.2⟩)))
        replace hQ := Lib.hid (hQ.out.chg ((Chg.refl [] w4).drewN nq))
        clear hmo
        try clear hbl
        try clear hen
        try clear c0 c1
        generalize w4.drewN nq = w5 at hQ ⊢
        obtain ⟨⟨x0, x1, x2⟩, -, ⟨z0, z1, z2⟩, zf⟩ := hQ.out.cells
        have zf0 := zf 0
        have zf1 := zf 1
        have zf2 := zf 2
        clear zf
        go_wp2_with fail
        obtain ⟨q1, q2, q3, q4⟩ := WQ.fin (v := .slice A n cc) (f := i) (kd := 1) hQ.out.P hQ.out.R hQ.out.C hQ.out.s hQ.out.g
        generalize (((w5.setCell ⟨b, 0, none⟩ (.int .i64 i)).setCell ⟨b, 1, none⟩ (.int .i64 1)).setCell ⟨b, 2, none⟩ (.slice A n cc)) = w' at q1 q2 q3 ⊢
        refine bodyPost_ret (v := .agg #[.int .i64 i, .int .i64 1, .slice A n cc]) ?_ rfl ⟨i, 1, A, n, cc, rfl, q2, fun q hq => by have := hv.out q hq; have := hb; omega, .inr ⟨p, q, j, hw.out, hq, q3⟩⟩
        exact results_cell1 rfl _ _ b 38 _ (0, 0) _ rfl q1 Try.underlying38 rfl (by kernel_rfl)
    · have e34 := u8n (n := 34) h34
      have n34 : ((c.toNat : Int) != 34) = true := by simp only [bne]; rw [show ((c.toNat : Int) == 34) = false from e34]; rfl
      go_quiet (fail)
      replace hP1 := hP1.out.chg ((Chg.refl [] _).drewN nq) (by simp)
      replace hR1 : Hid ((World.drewN _ nq).heap[b]? = _) := Lib.hid (blk_drewN hR1.out nq)
      replace hA1 := Lib.hid (hA1.out.drewN nq)
      have hsz2 : Hid ((World.drewN (w.alloc (.cells #[.int .i64 0, .int .i64 0, .slice none 0 0] 38)) nq).heap.size = b + 1) := Lib.hid (by have := hsz1.out; have := hb; show (w.alloc _).heap.size = _; omega)
      clear c0 c1
      generalize World.drewN (w.alloc (.cells #[.int .i64 0, .int .i64 0, .slice none 0 0] 38)) nq = w2 at hP1 hR1 hA1 hsz2 ⊢
      go_wp2_with fail
      refine (hba.out w2 hP1).mono ?_
      rintro e w3 ⟨A, n, cc, rfl, hC3, hv3, hcase⟩
      have hR3 := hC3.heap hR1.out (by simp; omega)
      have hC4 := Lib.hid (hA1.out.trans hC3)
      replace hv3 := Lib.hid (fun q hq => by have := hv3 q hq; have := hsz2.out; exact (by omega : b + 1 ≤ q))
      obtain ⟨z0, z1, z2⟩ := word_cells hR3
      have zf0 := word_frozen hR3 0
      have zf1 := word_frozen hR3 1
      have zf2 := word_frozen hR3 2
      replace hR3 := Lib.hid hR3
      replace hcase := Lib.hid hcase
      clear hP1 hR1 hA1 hC3
      go_wp2_with fail
      rcases hcase.out with ⟨r, j, hpg, hj, hPj, hn, hPa⟩ | ⟨p, q, j, hpg, hq, hPj⟩
      · obtain ⟨q1, q2, q3, q4⟩ := WQ.fin (v := .slice A n cc) (f := i) (kd := 0) hPj hR3.out hC4.out hb hgl
        have q5 : PartsAt _ (.slice A n cc) r := Sl.chg hPa q4 (fun _ q hq hm => by have := hv3.out q hq; simp at hm; omega)
        generalize (((w3.setCell ⟨b, 0, none⟩ (.int .i64 i)).setCell ⟨b, 1, none⟩ (.int .i64 0)).setCell ⟨b, 2, none⟩ (.slice A n cc)) = w' at q1 q2 q3 q5 ⊢
        refine bodyPost_ret (v := .agg #[.int .i64 i, .int .i64 0, .slice A n cc]) ?_ rfl ⟨i, 0, A, n, cc, rfl, q2, fun q hq => by have := hv3.out q hq; have := hb; omega, .inl ⟨r, j, word_bare_ok h123 h34 hpg, hn, q5, q3⟩⟩
        exact results_cell1 rfl _ _ b 38 _ (0, 0) _ rfl q1 Try.underlying38 rfl (by kernel_rfl)
      · obtain ⟨q1, q2, q3, q4⟩ := WQ.fin (v := .slice A n cc) (f := i) (kd := 0) hPj hR3.out hC4.out hb hgl
        generalize (((w3.setCell ⟨b, 0, none⟩ (.int .i64 i)).setCell ⟨b, 1, none⟩ (.int .i64 0)).setCell ⟨b, 2, none⟩ (.slice A n cc)) = w' at q1 q2 q3 ⊢
        refine bodyPost_ret (v := .agg #[.int .i64 i, .int .i64 0, .slice A n cc]) ?_ rfl ⟨i, 0, A, n, cc, rfl, q2, fun q hq => by have := hv3.out q hq; have := hb; omega, .inr ⟨p, q, j, word_bare_err h123 h34 hpg, hq, q3⟩⟩
        exact results_cell1 rfl _ _ b 38 _ (0, 0) _ rfl q1 Try.underlying38 rfl (by kernel_rfl)
end Rt
end Go.Proofs.Ytakcolililbkjaa
namespace Go.Proofs.Ytakcolililbkjaa
open Go.RowKit Tcl PPlanParses YtakcolililbkjaaW.PrintWords
namespace Rt
/-- How far a command is: well so far, or something is wrong. -/
def RcGo (base : Nat) (w : World) (g : Nat) (s : List UInt8) (B : ByteArray) (i0 : Nat) (v0 : Value) (row : Option Nat) (xs : List Value) (n gk : Nat) : Prop :=
  (∃ (i : Nat) (ws : List Word), RP w g B i 0 0 v0 ∧ WordsAt w base row xs ws ∧ ws.length = n ∧ command s i0 [] = command s i ws ∧ i ≤ s.length ∧ n ≤ i ∧ gk = s.length + 1 - i)
  ∨ (∃ p q j : Nat, RP w g B j q p v0 ∧ command s i0 [] = .error (p, q) ∧ q ≠ 0 ∧ gk = 0)
/-- A word is read, and is not yet in the row. -/
def RcMid (base : Nat) (w : World) (g : Nat) (s : List UInt8) (B : ByteArray) (i0 : Nat) (v0 : Value) (row : Option Nat) (xs : List Value) (n : Nat) (v : List Value) (gk : Nat) : Prop :=
  (∃ (j : Nat) (ws : List Word) (wd : Word) (A : Option Addr) (c : Nat), RP w g B j 0 0 v0 ∧ WordsAt w base row xs ws ∧ ws.length = n ∧ command s i0 [] = command s j (ws ++ [wd]) ∧ j ≤ s.length ∧ n + 1 ≤ j ∧ gk = s.length + 1 - j ∧
    v = [.int .i64 wd.at_, .int .i64 wd.kind, .slice A wd.parts.length c] ∧ PartsAt w (.slice A wd.parts.length c) wd.parts ∧ ∀ q, 0 < (partsCells wd.parts).length → (Value.slice A wd.parts.length c).ownBlock = some q → base ≤ q ∧ row ≠ some q)
  ∨ (∃ p q j : Nat, RP w g B j q p v0 ∧ command s i0 [] = .error (p, q) ∧ q ≠ 0 ∧ gk = 0)
theorem RcMid.go {S : List Nat} {W w' : World} {base g : Nat} {s : List UInt8} {B : ByteArray} {i0 : Nat} {v0 : Value} {row row' : Option Nat} {xs v : List Value} {n gk : Nat} (h : RcMid base W g s B i0 v0 row xs n v gk) (hc : Chg S W w')
    (hS : ∀ k ∈ S, k ≠ g ∧ (k < base ∨ row = some k ∨ W.heap.size ≤ k)) (hr : row' = row ∨ ∀ q, row' = some q → W.heap.size ≤ q) : RcGo base w' g s B i0 v0 row' (xs ++ v) (n + 1) gk := by
  have hgS : g ∉ S := fun hm => (hS g hm).1 rfl
  rcases h with ⟨j, ws, wd, A, c, h1, h2, h3, h4, h5, h6, h7, rfl, h8, h9⟩ | ⟨p, q, j, h1, h2, h3, h4⟩
  · refine .inl ⟨j, ws ++ [wd], h1.chg hc hgS, WordsAt.snoc (h2.step hc (fun k hk => (hS k hk).2) hr) wd A c (h8.chg hc fun h0 q hq hm => ?_) fun q h0 hq => ?_, by simp [h3], h4, h5, h6, h7⟩
    · obtain ⟨k', hk', hlt'⟩ := Sl.block h8 h0
      rw [hq] at hk'; cases hk'
      have := h9 q h0 hq
      rcases (hS q hm).2 with h10 | h10 | h10
      · omega
      · exact this.2 h10
      · omega
    · obtain ⟨k', hk', hlt'⟩ := Sl.block h8 h0
      rw [hq] at hk'; cases hk'
      have := h9 q h0 hq
      refine ⟨this.1, fun e => ?_⟩
      rcases hr with hr | hr
      · exact this.2 (hr ▸ e)
      · have := hr q e; omega
  · exact .inr ⟨p, q, j, h1.chg hc hgS, h2, h3, h4⟩
/-- What holds behind a word. -/
theorem rc_word {wr w6 w3 : World} {g b : Nat} {s : List UInt8} {B : ByteArray} {i0 : Nat} {i : Nat} {c : UInt8} {A A2 : Option Addr} {n cc n2 c2 : Nat} {xs : List Value} {ws : List Word} {f kd : Nat} {x0 x1 v0 : Value}
    (hsc : s[i]? = some c) (hstp : stopB c = false) (hst2 : command s i0 [] = match word s i c with | .error b => .error b | .ok (w, j) => if i < j then command s j (ws ++ [w]) else .error (0, 0))
    (hX : WordsAt w6 (b + 1) (Value.slice A n cc).ownBlock xs ws) (hO : w6.ownsRow (b + 1) 38 3 (.slice A n cc) n xs) (hV : CS w6 b x0 x1) (hgl : g < b) (hC : Chg [g] wr w6) (hlen : ws.length = n) (hni : n ≤ i)
    (hC3 : Chg [g] w6 w3) (hA : ∀ q, (Value.slice A2 n2 c2).ownBlock = some q → w6.heap.size ≤ q)
    (hcase : (∃ ps j, word s i c = .ok (⟨f, kd, ps⟩, j) ∧ n2 = ps.length ∧ PartsAt w3 (.slice A2 n2 c2) ps ∧ RP w3 g B ((j : Nat) : Int) 0 0 v0)
      ∨ (∃ p q j : Nat, word s i c = .error (p, q) ∧ q ≠ 0 ∧ RP w3 g B j q p v0)) :
    ∃ gk, RcMid (b + 1) w3 g s B i0 v0 (Value.slice A n cc).ownBlock xs n [.int .i64 f, .int .i64 kd, .slice A2 n2 c2] gk ∧ gk < s.length + 1 - i ∧ CS w3 b x0 x1 ∧ w3.ownsRow (b + 1) 38 3 (.slice A n cc) n xs ∧ Chg [g] wr w3 := by
  have hil := lt_of_some hsc
  have h1 : ∀ q, (Value.slice A n cc).ownBlock = some q → q ∉ [g] := fun q hq hm => by have := (hO.lt q hq).1; simp at hm; omega
  have hb2 : b + 1 ≤ w6.heap.size := by have := lt_heap hV; omega
  suffices h : ∃ gk, RcMid (b + 1) w3 g s B i0 v0 (Value.slice A n cc).ownBlock xs n [.int .i64 f, .int .i64 kd, .slice A2 n2 c2] gk ∧ gk < s.length + 1 - i by
    obtain ⟨gk, h2, h3⟩ := h
    exact ⟨gk, h2, h3, hV.chg hC3 (by simp; omega), own_chg hO hC3 h1, hC.trans hC3⟩
  rcases hcase with ⟨ps, j, hw, rfl, h3, hPj⟩ | ⟨p, q, j, hw, hq, hPj⟩
  · have hb := word_bound hsc hstp hw
    rw [hw] at hst2
    simp only [if_pos hb.1] at hst2
    refine ⟨s.length + 1 - j, .inl ⟨j, ws, ⟨f, kd, ps⟩, A2, c2, hPj, hX.chg hC3 (by intro k hk; simp at hk; omega), hlen, hst2, hb.2, by omega, rfl, rfl, h3, fun q h0 hq => ?_⟩, by omega⟩
    have h5 := hA q hq
    exact ⟨by omega, fun e => by have := (hO.lt q e).2; omega⟩
  · rw [hw] at hst2
    exact ⟨0, .inr ⟨p, q, j, hPj, hst2, hq, rfl⟩, by omega⟩
/-- One word more in the command's row. -/
theorem row_step1 {wr W w1 : World} {g b n c c' size : Nat} {A A' : Option Addr} {v0 : Value} {t e : TypeId} {xs v : List Value} {ob : Obj}
    (h1 : W.heap[b]? = some (.cells #[v0, .slice A n c] t (0, 0))) (h3 : W.ownsRow (b + 1) e size (.slice A n c) n xs) (hb : wr.heap.size = b)
    (hC : Chg [g] wr W) (hO' : w1.ownsRow (b + 1) e size (.slice A' (n + 1) c') (n + 1) (xs ++ v)) (hCh : Chg (Value.slice A n c).ownBlock.toList (W.alloc ob) w1) :
    w1.cell? ⟨b, 1, none⟩ = some (.slice A n c) ∧ w1.frozen? ⟨b, 1, none⟩ = false ∧ (w1.setCell ⟨b, 1, none⟩ (.slice A' (n + 1) c')).heap[b]? = some (.cells #[v0, .slice A' (n + 1) c'] t (0, 0)) ∧
    (w1.setCell ⟨b, 1, none⟩ (.slice A' (n + 1) c')).ownsRow (b + 1) e size (.slice A' (n + 1) c') (n + 1) (xs ++ v) ∧
    Chg [g] wr (w1.setCell ⟨b, 1, none⟩ (.slice A' (n + 1) c')) ∧ Chg ((Value.slice A n c).ownBlock.toList ++ [b]) W (w1.setCell ⟨b, 1, none⟩ (.slice A' (n + 1) c')) := by
  have G1 := hCh.heap (blk_alloc h1 ob) (fun hm => by have := (h3.lt b (by simpa using hm)).1; omega)
  refine ⟨by simp [World.cell?, G1], by simp [World.frozen?, G1], blk_set G1 1 _, own_set hO' _ _ _ (fun hq => by have := (hO'.lt b hq).1; omega), ?_, ?_⟩
  · exact ((hC.alloc ob).then hCh (fun q hq => .inr (by have := (h3.lt q (by simpa using hq)).1; omega))).setCell (.inr (by show wr.heap.size ≤ b; omega)) _
  · exact (((Chg.refl _ W).alloc ob).trans (hCh.mono (fun x hx => .inl (List.mem_append_left _ hx)))).setCell (.inl (by simp)) _
/-- How a command ends. -/
def RcOut (b : Nat) (w : World) (g : Nat) (s : List UInt8) (B : ByteArray) (i0 : Nat) (v0 : Value) (row : Option Nat) (ys : List Value) (n : Nat) : Prop :=
  (∃ (ws : List Word) (j : Nat), RP w g B j 0 0 v0 ∧ WordsAt w (b + 1) row ys ws ∧ n = ws.length ∧ command s i0 [] = .ok (ws, j))
  ∨ (∃ p q j : Nat, RP w g B j q p v0 ∧ command s i0 [] = .error (p, q) ∧ q ≠ 0)
/-- How far Parse is. -/
def RpGo (w0 w : World) (g : Nat) (s : List UInt8) (B : ByteArray) (A : Option Addr) (n cc : Nat) (xs : List Value) (gk : Nat) : Prop :=
  w.ownsRow (g + 1) 69 2 (.slice A n cc) n xs ∧ Chg [] w0 w ∧
  ((∃ (i : Nat) (cs : List Cmd), RP w g B i 0 0 (.slice A n cc) ∧ CmdsAt w (g + 1) (Value.slice A n cc).ownBlock xs cs ∧ cs.length = n ∧ parseGo s 0 [] = parseGo s i cs ∧ i ≤ s.length ∧ n ≤ i ∧ gk = s.length + 1 - i)
  ∨ (∃ p q j : Nat, RP w g B j q p (.slice A n cc) ∧ parseGo s 0 [] = .error (p, q) ∧ q ≠ 0 ∧ gk = 0))
theorem RpGo.skip {w0 wr wx : World} {g : Nat} {s : List UInt8} {B : ByteArray} {A : Option Addr} {n cc : Nat} {xs : List Value} {cs : List Cmd} {i : Nat} (hO : wr.ownsRow (g + 1) 69 2 (.slice A n cc) n xs) (hC0 : Chg [] w0 wr) (hg : w0.heap.size = g)
    (hX : CmdsAt wr (g + 1) (Value.slice A n cc).ownBlock xs cs) (hlen : cs.length = n) (hC : Chg [g] wr wx) (hP : RP wx g B i 0 0 (.slice A n cc)) (he : parseGo s 0 [] = parseGo s i cs) (hi : i ≤ s.length) (hni : n ≤ i) : RpGo w0 wx g s B A n cc xs (s.length + 1 - i) :=
  ⟨own_chg hO hC (fun q hq hm => by have := (hO.lt q hq).1; simp at hm; omega), hC0.then hC (fun q hq => .inr (by simp at hq; omega)), .inl ⟨i, cs, hP, hX.chg hC (fun k hk => by simp at hk; omega), hlen, he, hi, hni, rfl⟩⟩
theorem RP.put4 {w : World} {g : Nat} {s : ByteArray} {i e a : Int} {v : Value} (h : RP w g s i e a v) (v' : Value) : RP (w.setCell ⟨g, 4, none⟩ v') g s i e a v' := blk_set h 4 _
/-- What holds behind a command. -/
theorem rp_cmd {w0 wr wx w4 : World} {g b : Nat} {s : List UInt8} {B : ByteArray} {i : Nat} {c : UInt8} {A A2 A' : Option Addr} {n cc n2 c2 c' : Nat} {xs ys : List Value} {cs : List Cmd}
    (hsc : s[i]? = some c) (hstp : stopB c = false) (hst : parseGo s 0 [] = match command s i [] with | .error b => .error b | .ok (ws, j) => if i < j then parseGo s j (cs ++ [⟨i, ws⟩]) else .error (0, 0))
    (hX : CmdsAt wr (g + 1) (Value.slice A n cc).ownBlock xs cs) (hO : wr.ownsRow (g + 1) 69 2 (.slice A n cc) n xs) (hlen : cs.length = n) (hni : n ≤ i) (hg0 : w0.heap.size = g) (hC0 : Chg [] w0 wr) (hb : wr.heap.size = b) (hgl : g < b)
    (hO2 : wx.ownsRow (b + 1) 38 3 (.slice A2 n2 c2) n2 ys) (hC : Chg [g] wr wx) (hcase : RcOut b wx g s B i (.slice A n cc) (Value.slice A2 n2 c2).ownBlock ys n2)
    (hO' : w4.ownsRow (g + 1) 69 2 (.slice A' (n + 1) c') (n + 1) (xs ++ [.int .i64 i, .slice A2 n2 c2])) (hCh : Chg (Value.slice A n cc).ownBlock.toList wx w4)
    (hat : (Value.slice A' (n + 1) c').ownBlock = (Value.slice A n cc).ownBlock ∨ ∀ q, (Value.slice A' (n + 1) c').ownBlock = some q → wx.heap.size ≤ q) :
    (w4.cell? ⟨g, 4, none⟩ = some (.slice A n cc) ∧ w4.frozen? ⟨g, 4, none⟩ = false) ∧ ∃ gk, gk < s.length + 1 - i ∧ RpGo w0 (w4.setCell ⟨g, 4, none⟩ (.slice A' (n + 1) c')) g s B A' (n + 1) c' (xs ++ [.int .i64 i, .slice A2 n2 c2]) gk := by
  have hil := lt_of_some hsc
  have hend : endB c = false := by simp [stopB] at hstp; exact hstp.2
  have hgA : g ∉ (Value.slice A n cc).ownBlock.toList := fun hm => by have := (hO.lt g (by simpa using hm)).1; omega
  have hSt : Chg [g] w4 (w4.setCell ⟨g, 4, none⟩ (.slice A' (n + 1) c')) := (Chg.refl [g] w4).setCell (.inl (by simp)) _
  have hOw : (w4.setCell ⟨g, 4, none⟩ (.slice A' (n + 1) c')).ownsRow (g + 1) 69 2 (.slice A' (n + 1) c') (n + 1) (xs ++ [.int .i64 i, .slice A2 n2 c2]) := own_set hO' _ _ _ (fun hq => by have := (hO'.lt g hq).1; omega)
  have hCw : Chg [] w0 (w4.setCell ⟨g, 4, none⟩ (.slice A' (n + 1) c')) := ((hC0.then hC (fun q hq => .inr (by simp at hq; omega))).then hCh (fun q hq => .inr (by have := (hO.lt q (by simpa using hq)).1; omega))).then hSt (fun q hq => .inr (by simp at hq; omega))
  rcases hcase with ⟨ws, j, hP, hW, rfl, hcm⟩ | ⟨p, q, j, hP, hcm, hq⟩
  · have hP4 := hP.chg hCh hgA
    have hbd := command_bound s (s.length - i) i [] ws j (Nat.le_refl _) (by omega) hcm
    have hm := command_more hsc hend hcm
    rw [hcm] at hst
    simp only [if_pos hm] at hst
    refine ⟨⟨hP4.c0.2.2.2.2, hP4.f0 4⟩, s.length + 1 - j, by omega, hOw, hCw, .inl ⟨j, cs ++ [⟨i, ws⟩], hP4.put4 _, ?_, by simp [hlen], hst, hbd.2.1, by omega, rfl⟩⟩
    have hXx := hX.chg hC (fun k hk => by simp at hk; omega)
    have hX4 := (hXx.step hCh (fun k hk => .inr (.inl (by simpa using hk))) hat).chg hSt (fun k hk => by simp at hk; omega)
    have hSl := (own_sl hO2).chg hCh (fun _ q hq hm => by have h1 := (hO2.lt q hq).1; have h2 := (hO.lt q (by simpa using hm)).2; omega)
    have hSl5 := hSl.chg hSt (fun _ q hq hm => by have h1 := (hO2.lt q hq).1; simp at hm; omega)
    have hW1 := hW.old (base' := g + 1) (row' := (Value.slice A n cc).ownBlock) (by omega) (fun q hq => by have := (hO.lt q hq).2; omega)
    have hW2 := (hW1.step hCh (fun k hk => .inr (.inl (by simpa using hk))) hat).chg hSt (fun k hk => by simp at hk; omega)
    refine hX4.snoc ⟨i, ws⟩ A2 c2 ys hSl5 hW2 (fun q _ hq => ?_)
    have h1 := hO2.lt q hq
    refine ⟨by omega, fun e => ?_⟩
    rcases hat with h2 | h2
    · have h3 : (Value.slice A n cc).ownBlock = some q := h2 ▸ e
      have := (hO.lt q h3).2; omega
    · have := h2 q e; omega
  · have hP4 := hP.chg hCh hgA
    rw [hcm] at hst
    exact ⟨⟨hP4.c0.2.2.2.2, hP4.f0 4⟩, 0, by omega, hOw, hCw, .inr ⟨p, q, j, hP4.put4 _, hst, hq, rfl⟩⟩
end Rt
end Go.Proofs.Ytakcolililbkjaa
namespace Go.Proofs.Ytakcolililbkjaa
open Go.RowKit Tcl PPlanParses YtakcolililbkjaaW.PrintWords
namespace Rt
/-- Parse, so far well, at `i`. -/
structure PG (w0 wr : World) (g : Nat) (B : ByteArray) (i : Int) (A : Option Addr) (n cc : Nat) (xs : List Value) (cs : List Cmd) : Prop where
  O : wr.ownsRow (g + 1) 69 2 (.slice A n cc) n xs
  C : Chg [] w0 wr
  X : CmdsAt wr (g + 1) (Value.slice A n cc).ownBlock xs cs
  P : RP wr g B i 0 0 (.slice A n cc)
theorem PG.chg {w0 wr wx : World} {g : Nat} {B : ByteArray} {i : Int} {A : Option Addr} {n cc : Nat} {xs : List Value} {cs : List Cmd} (h : PG w0 wr g B i A n cc xs cs) (hc : Chg [] wr wx) : PG w0 wx g B i A n cc xs cs :=
  ⟨own_chg h.O hc (by simp), h.C.trans hc, h.X.chg hc (by simp), h.P.chg hc (by simp)⟩
theorem RcOut.chg {b : Nat} {w wx : World} {g : Nat} {s : List UInt8} {B : ByteArray} {i0 : Nat} {v0 : Value} {row : Option Nat} {ys : List Value} {n : Nat} (h : RcOut b w g s B i0 v0 row ys n) (hc : Chg [] w wx) : RcOut b wx g s B i0 v0 row ys n := by
  rcases h with ⟨ws, j, h1, h2, h3⟩ | ⟨p, q, j, h1, h2⟩
  · exact .inl ⟨ws, j, h1.chg hc (by simp), h2.chg hc (by simp), h3⟩
  · exact .inr ⟨p, q, j, h1.chg hc (by simp), h2⟩
theorem RcOut.c4 {b : Nat} {w : World} {g : Nat} {s : List UInt8} {B : ByteArray} {i0 : Nat} {v0 : Value} {row : Option Nat} {ys : List Value} {n : Nat} (h : RcOut b w g s B i0 v0 row ys n) : w.cell? ⟨g, 4, none⟩ = some v0 := by
  rcases h with ⟨ws, j, h1, h2, h3⟩ | ⟨p, q, j, h1, h2⟩
  · exact h1.c0.2.2.2.2
  · exact h1.c0.2.2.2.2
theorem ll_none {s : List UInt8} {j : Nat} (h : s.length ≤ j) : lineLen (s.drop j) = 0 := by rw [List.drop_eq_nil_of_le h]; rfl
theorem ll_some {s : List UInt8} {j : Nat} {c : UInt8} (h : s[j]? = some c) : lineLen (s.drop j) = if c = 10 then 0 else lineLen (s.drop (j + 1)) + 1 := by
  obtain ⟨hl, he⟩ := List.getElem?_eq_some_iff.1 h
  rw [List.drop_eq_getElem_cons hl, he, lineLen]
set_option maxRecDepth 100000 in
set_option maxHeartbeats 16000000 in
theorem parse_ref (w : World) (s : List UInt8) (hs : s.length ≤ 50000) : Calls Try.prog 22 #[.string (bstr s)] w (PaRes w s) := by
  have hsz : (bstr s).size = s.length := rfl
  have hE0 : Hid (parse s = parseGo s 0 []) := Lib.hid (by unfold parse; rw [if_neg (by omega)])
  have hwd := Lib.hid (fun W g i c v0 hc hP => word_ref W g s i c 0 v0 hs hc hP)
  obtain ⟨B, hB⟩ : ∃ B, bstr s = B := ⟨_, rfl⟩
  have hby : ∀ i (h : i < B.size), s[i]? = some (B[i]'h) := by rw [← hB]; exact fun i h => byte_of h
  unfold PaRes
  unfold RwEnd at hwd
  rw [hB] at hsz hwd ⊢
  replace hby := Lib.hid hby
  have hdec : decide ((16777216 : Int) < (s.length : Int)) = false := by simp; omega
  have hP : Hid (RP (w.alloc (.cells #[.string B, .int .i64 0, .int .i64 0, .int .i64 0, .slice none 0 0] 91)) w.heap.size B (0 : Nat) 0 0 (.slice none 0 0)) := Lib.hid (blk_new _ _)
  have hC : Hid (Chg [] w (w.alloc (.cells #[.string B, .int .i64 0, .int .i64 0, .int .i64 0, .slice none 0 0] 91))) := Lib.hid ((Chg.refl [] w).alloc _)
  obtain ⟨g, hg⟩ : ∃ g, w.heap.size = g := ⟨_, rfl⟩
  clear hB
  go_enter Try.func22, Try.ntmps22
  go_upto_block 0 with (fail)
  rw [hg] at hP
  generalize w.alloc _ = w1 at hP hC ⊢
  go_wp2
  go_loopg [] (s.length + 1) (fun gk wr => ∃ (A : Option Addr) (n cc : Nat) (xs : List Value), Hid (RpGo w wr g s B A n cc xs gk))
  case atStart => exact ⟨none, 0, 0, [], Lib.hid ⟨World.ownsRow_nil _ _ _ _, hC.out, .inl ⟨0, [], hP.out, CmdsAt.nil _ _ _, rfl, rfl, by omega, by omega, by omega⟩⟩⟩
  case round =>
    clear hP hC
    obtain ⟨A, n, cc, xs, hgo⟩ := hrel
    obtain ⟨hO, hC, hcase⟩ := hgo.out
    clear hgo
    rcases hcase with ⟨i, cs, hP, hX, hlen, hpg, hil, hni, rfl⟩ | ⟨p, q, j, hP, hpg, hq0, rfl⟩
    · have hG : PG w wr g B i A n cc xs cs := ⟨hO, hC, hX, hP⟩
      replace hlen := Lib.hid hlen
      clear hO hC hX hP
      by_cases hlt : i < s.length
      · have hmo := more_ref wr g B i 0 0 _ hG.P true (by simp; omega)
        have hlB : i < B.size := by omega
        obtain ⟨c, hc⟩ : ∃ c, B[i]'hlB = c := ⟨_, rfl⟩
        have hsc : s[i]? = some c := by rw [hby.out i hlB, hc]
        have hstep := Lib.hid (hpg.trans (parse_some hsc))
        clear hpg
        replace hG := Lib.hid hG
        replace hmo := Lib.hid hmo
        go_wp2_with fail
        refine (hmo.out).mono ?_
        rintro e w2 ⟨rfl, hC2⟩
        replace hG := Lib.hid (hG.out.chg hC2)
        clear hmo hC2
        obtain ⟨c0, c1, -, -, -⟩ := hG.out.P.c0
        have f1 := hG.out.P.f0 1
        have hskip : ∀ wx i' cs', Chg [g] w2 wx → RP wx g B ((i' : Nat) : Int) 0 0 (.slice A n cc) → parseGo s 0 [] = parseGo s i' cs → i' ≤ s.length → n ≤ i' → cs' = cs → RpGo w wx g s B A n cc xs (s.length + 1 - i') := fun wx i' cs' hC hP he hi' hn' _ => RpGo.skip hG.out.O hG.out.C hg hG.out.X hlen.out hC hP he hi' hn'
        replace hskip := Lib.hid hskip
        by_cases hb : stopB c = true
        · have hE := Lib.hid (hstep.out.trans (if_pos hb))
          have hput : RP (w2.setCell ⟨g, 1, none⟩ (.int .i64 ((i : Int) + 1))) g B ((i + 1 : Nat) : Int) 0 0 (.slice A n cc) := hG.out.P.put _
          have hgo := Lib.hid (hskip.out (w2.setCell ⟨g, 1, none⟩ (.int .i64 ((i : Int) + 1))) (i + 1) cs ((Chg.refl [g] w2).setCell (.inl (by simp)) _) hput hE.out (by omega) (by omega) rfl)
          clear hstep hskip hput
          by_cases hb1 : blankB c = true
          · have hbl := Lib.hid (fun w => blank_ref w c true hb1)
            clear hb1 hb
            go_wp2_with fail
            refine (hbl.out _).mono ?_
            rintro e w' ⟨rfl, rfl⟩
            clear hbl
            go_wp2_with fail
            go_roundg (s.length + 1 - (i + 1))
            case measure => omega
            case rel => exact ⟨A, n, cc, xs, hgo⟩
          · have hb2 : endB c = true := by unfold stopB at hb; simpa [hb1] using hb
            replace hb1 : blankB c = false := by simpa using hb1
            have hbl := Lib.hid (fun w => blank_ref w c false hb1)
            have hen := Lib.hid (fun w => end_ref w c true hb2)
            clear hb1 hb hb2
            go_wp2_with fail
            refine (hbl.out _).mono ?_
            rintro e w' ⟨rfl, rfl⟩
            go_wp2_with fail
            refine (hen.out _).mono ?_
            rintro e w' ⟨rfl, rfl⟩
            clear hbl hen
            go_wp2_with fail
            go_roundg (s.length + 1 - (i + 1))
            case measure => omega
            case rel => exact ⟨A, n, cc, xs, hgo⟩
        · have hstp : stopB c = false := by simpa using hb
          have hst1 := Lib.hid (hstep.out.trans (if_neg hb))
          have hb1 : blankB c = false := by unfold stopB at hstp; simp at hstp; exact hstp.1
          have hb2 : endB c = false := by unfold stopB at hstp; simp at hstp; exact hstp.2
          have hbl := Lib.hid (fun w => blank_ref w c false hb1)
          have hen := Lib.hid (fun w => end_ref w c false hb2)
          clear hb hb1 hb2 hstep
          go_wp2_with fail
          refine (hbl.out _).mono ?_
          rintro e w' ⟨rfl, rfl⟩
          go_wp2_with fail
          refine (hen.out _).mono ?_
          rintro e w' ⟨rfl, rfl⟩
          clear hbl hen
          by_cases h35 : c = 35
          · subst h35
            have hpos : 0 < lineLen (s.drop i) := lineLen_pos (c := 35) (by rw [List.getElem?_drop]; exact hsc) (by decide)
            have hE := Lib.hid ((hst1.out.trans (if_pos rfl)).trans (if_pos hpos))
            obtain ⟨N, hN⟩ : ∃ N, lineLen (s.drop i) = N := ⟨_, rfl⟩
            have hNl : i + N ≤ s.length := by
              have := lineLen_le (s.drop i)
              rw [List.length_drop] at this
              omega
            rw [hN] at hpos hE
            replace hN := Lib.hid hN
            clear hst1 c0 c1 f1
            go_upto_block 2 with (fail)
            go_cut [] (fun wx => Hid (RP wx g B ((i + N : Nat) : Int) 0 0 (.slice A n cc)) ∧ Hid (Chg [g] w' wx))
            case first =>
              have hP2 := Lib.hid hG.out.P
              clear hG hskip hE
              go_wp2
              go_loopg [] (s.length + 1) (fun gk wx => ∃ m : Nat, m ≤ N ∧ gk = s.length + 1 - m ∧ Hid (N = m + lineLen (s.drop (i + m))) ∧ Hid (RP wx g B ((i + m : Nat) : Int) 0 0 (.slice A n cc)) ∧ Hid (Chg [g] w' wx))
              case atStart => exact ⟨0, by omega, by omega, Lib.hid (by show N = 0 + lineLen (s.drop i); rw [hN.out]; omega), hP2, Lib.hid (Chg.refl _ _)⟩
              case round =>
                obtain ⟨m, hmN, rfl, hm, hPx, hCx⟩ := hrel
                clear hP2
                obtain ⟨k, hk⟩ : ∃ k, i + m = k := ⟨_, rfl⟩
                rw [hk] at hm hPx
                replace hk := Lib.hid hk
                obtain ⟨c0, c1, -, -, -⟩ := hPx.out.c0
                have f1 := hPx.out.f0 1
                by_cases hkl : k < s.length
                · have hkB : k < B.size := by omega
                  obtain ⟨d, hd⟩ : ∃ d, B[k]'hkB = d := ⟨_, rfl⟩
                  have hsd : s[k]? = some d := by rw [hby.out _ hkB, hd]
                  have hll := ll_some hsd
                  by_cases hd10 : d = 10
                  · subst hd10
                    rw [if_pos rfl] at hll
                    have hmm : m = N := by have := hm.out; omega
                    subst hmm
                    have hPx2 : Hid (RP wr g B ((i + m : Nat) : Int) 0 0 (.slice A n cc)) := by rw [hk.out]; exact hPx
                    clear hll hm hsd
                    go_wp2_with fail
                    go_meet
                    exact ⟨hPx2, hCx⟩
                  · rw [if_neg hd10] at hll
                    have e10 := u8n (n := 10) hd10
                    have n10 : ((d.toNat : Int) != 10) = true := by simp only [bne]; rw [show ((d.toNat : Int) == 10) = false from e10]; rfl
                    have hm2 : Hid (N = m + 1 + lineLen (s.drop (i + (m + 1)))) := Lib.hid (by have := hm.out; rw [hll] at this; rw [show i + (m + 1) = k + 1 by have := hk.out; omega]; omega)
                    have hmN2 : m + 1 ≤ N := by have := hm2.out; omega
                    have hPx2 : Hid (RP (wr.setCell ⟨g, 1, none⟩ (.int .i64 ((k : Int) + 1))) g B ((i + (m + 1) : Nat) : Int) 0 0 (.slice A n cc)) := Lib.hid (by
                      rw [show ((i + (m + 1) : Nat) : Int) = (k : Int) + 1 by have := hk.out; omega]; exact hPx.out.put _)
                    have hCx2 : Hid (Chg [g] w' (wr.setCell ⟨g, 1, none⟩ (.int .i64 ((k : Int) + 1)))) := Lib.hid (hCx.out.setCell (.inl (by simp)) _)
                    clear hll hm hsd
                    go_wp2_with fail
                    go_roundg (s.length + 1 - (m + 1))
                    case measure => omega
                    case rel => exact ⟨m + 1, hmN2, rfl, hm2, hPx2, hCx2⟩
                · have hmm : m = N := by have := hm.out; rw [ll_none (by omega)] at this; omega
                  subst hmm
                  have hPx2 : Hid (RP wr g B ((i + m : Nat) : Int) 0 0 (.slice A n cc)) := by rw [hk.out]; exact hPx
                  have hdk : decide ((k : Int) < (s.length : Int)) = false := by simp; omega
                  clear hm
                  go_wp2_with fail
                  go_meet
                  exact ⟨hPx2, hCx⟩
            case rest =>
              obtain ⟨hPx, hCx⟩ := hcut
              have hgo := Lib.hid (hskip.out _ (i + N) cs hCx.out hPx.out hE.out hNl (by omega) rfl)
              clear hskip hPx hCx hE
              go_wp2_with fail
              go_roundg (s.length + 1 - (i + N))
              case measure => omega
              case rel => exact ⟨A, n, cc, xs, hgo⟩
          · have e35 : ((c.toNat : Int) == 35) = false := u8n (n := 35) h35
            have hst2 := Lib.hid (hst1.out.trans (if_neg h35))
            clear hst1 hskip
            obtain ⟨v0, hv0⟩ : ∃ v0, v0 = Value.slice A n cc := ⟨_, rfl⟩
            obtain ⟨b, hb⟩ : ∃ b, w'.heap.size = b := ⟨_, rfl⟩
            have hgl : g < b := by have := hG.out.P.lt; omega
            have hV : Hid (CS (w'.alloc (.cells #[.int .i64 i, .slice none 0 0] 69)) b (.int .i64 i) (.slice none 0 0)) := Lib.hid (by rw [← hb]; exact blk_new _ _)
            have hP : Hid (RP (w'.alloc (.cells #[.int .i64 i, .slice none 0 0] 69)) g B i 0 0 (.slice A n cc)) := Lib.hid (hG.out.P.chg ((Chg.refl [] w').alloc _) (by simp))
            have hC : Hid (Chg [g] w' (w'.alloc (.cells #[.int .i64 i, .slice none 0 0] 69))) := Lib.hid ((Chg.refl [g] w').alloc _)
            go_upto_block 4 with (fail)
            clear c0 c1 f1
            generalize w'.alloc (.cells #[.int .i64 i, .slice none 0 0] 69) = w3 at hV hP hC ⊢
            go_cut [] (fun wx => ∃ (A2 : Option Addr) (n2 c2 : Nat) (ys : List Value), Hid (CS wx b (.int .i64 i) (.slice A2 n2 c2)) ∧ Hid (wx.ownsRow (b + 1) 38 3 (.slice A2 n2 c2) n2 ys) ∧ Hid (Chg [g] w' wx) ∧ Hid (RcOut b wx g s B i (.slice A n cc) (Value.slice A2 n2 c2).ownBlock ys n2))
            case first =>
              clear hG hst2
              go_wp2
              go_loopg [] (s.length + 1 - i) (fun gk wx => ∃ (A2 : Option Addr) (n2 c2 : Nat) (ys : List Value), Hid (CS wx b (.int .i64 i) (.slice A2 n2 c2)) ∧ Hid (wx.ownsRow (b + 1) 38 3 (.slice A2 n2 c2) n2 ys) ∧ Hid (Chg [g] w' wx) ∧ Hid (RcGo (b + 1) wx g s B i (.slice A n cc) (Value.slice A2 n2 c2).ownBlock ys n2 gk))
              case atStart => exact ⟨none, 0, 0, [], hV, Lib.hid (World.ownsRow_nil _ _ _ _), hC, Lib.hid (.inl ⟨i, [], hP.out, WordsAt.nil _ _ _, rfl, rfl, hil, by omega, rfl⟩)⟩
              case round =>
                obtain ⟨A2, n2, c2, ys, hV2, hO2, hC2, hgo⟩ := hrel
                clear hV hP hC
                rcases hgo.out with ⟨k, ws, hPk, hXk, hlk, hck, hkl, hnk, rfl⟩ | ⟨p, q, j, hPk, hck, hq0, rfl⟩
                · clear hgo
                  replace hPk := Lib.hid hPk
                  replace hXk := Lib.hid hXk
                  replace hlk := Lib.hid hlk
                  by_cases hlt2 : k < s.length
                  · have hmo := Lib.hid (more_ref wr g B k 0 0 _ hPk.out true (by simp; omega))
                    have hkB : k < B.size := by omega
                    obtain ⟨d, hd⟩ : ∃ d, B[k]'hkB = d := ⟨_, rfl⟩
                    have hsd : s[k]? = some d := by rw [hby.out k hkB, hd]
                    have hstep := Lib.hid (hck.trans (command_some hsd))
                    clear hck
                    go_wp2_with fail
                    refine (hmo.out).mono ?_
                    rintro e w4 ⟨rfl, hC4⟩
                    replace hPk := Lib.hid (hPk.out.chg hC4 (by simp))
                    replace hXk := Lib.hid (hXk.out.chg hC4 (by simp))
                    replace hV2 := Lib.hid (CS.chg hV2.out hC4 (by simp))
                    replace hO2 := Lib.hid (own_chg hO2.out hC4 (by simp))
                    replace hC2 := Lib.hid (hC2.out.trans (hC4.mono (by simp)))
                    clear hmo hC4
                    obtain ⟨c0, c1, -, -, -⟩ := hPk.out.c0
                    have f1 := hPk.out.f0 1
                    by_cases he : endB d = true
                    · have hen := Lib.hid (fun w => end_ref w d true he)
                      have hE := hstep.out.trans (if_pos he)
                      have hout : Hid (RcOut b w4 g s B i (.slice A n cc) (Value.slice A2 n2 c2).ownBlock ys n2) := Lib.hid (.inl ⟨ws, k, hPk.out, hXk.out, hlk.out.symm, hE⟩)
                      clear hstep hE he
                      go_wp2_with fail
                      refine (hen.out _).mono ?_
                      rintro e w5 ⟨rfl, h5⟩
                      rw [h5]
                      go_wp2_with fail
                      go_meet
                      exact ⟨A2, n2, c2, ys, hV2, hO2, hC2, hout⟩
                    · replace he : endB d = false := by simpa using he
                      have hen := Lib.hid (fun w => end_ref w d false he)
                      have hst1 := Lib.hid (hstep.out.trans (if_neg (by rw [he]; decide)))
                      clear hstep
                      go_wp2_with fail
                      refine (hen.out _).mono ?_
                      rintro e w5 ⟨rfl, h5⟩
                      rw [h5]
                      clear h5 hen
                      by_cases hbk : blankB d = true
                      · have hbl := Lib.hid (fun w => blank_ref w d true hbk)
                        have hst3 := Lib.hid (hst1.out.trans (if_pos hbk))
                        have hcs : Chg [g] w4 (w4.setCell ⟨g, 1, none⟩ (.int .i64 ((k : Int) + 1))) := (Chg.refl [g] _).setCell (.inl (by simp)) _
                        have hr1 := Lib.hid (CS.chg hV2.out hcs (by simp; omega))
                        have hr2 := Lib.hid (own_chg hO2.out hcs (fun q hq hm => by have := (hO2.out.lt q hq).1; simp at hm; omega))
                        have hr3 := Lib.hid (hC2.out.trans hcs)
                        have hr4 : Hid (RcGo (b + 1) (w4.setCell ⟨g, 1, none⟩ (.int .i64 ((k : Int) + 1))) g s B i (.slice A n cc) (Value.slice A2 n2 c2).ownBlock ys n2 (s.length + 1 - (k + 1))) := Lib.hid (.inl ⟨k + 1, ws, hPk.out.put _, hXk.out.chg hcs (by intro k hk; simp at hk; omega), hlk.out, hst3.out, by omega, by omega, rfl⟩)
                        clear hst1 hst3 hcs hbk
                        go_wp2_with fail
                        refine (hbl.out _).mono ?_
                        rintro e w5 ⟨rfl, h5⟩
                        rw [h5]
                        clear h5 hbl
                        go_wp2_with fail
                        go_roundg (s.length + 1 - (k + 1))
                        case measure => omega
                        case rel => exact ⟨A2, n2, c2, ys, hr1, hr2, hr3, hr4⟩
                      · replace hbk : blankB d = false := by simpa using hbk
                        have hbl := Lib.hid (fun w => blank_ref w d false hbk)
                        have hst3 := Lib.hid (hst1.out.trans (if_neg (by rw [hbk]; decide)))
                        have hstd : stopB d = false := by unfold stopB; rw [hbk, he]; rfl
                        clear hst1
                        go_wp2_with fail
                        refine (hbl.out _).mono ?_
                        rintro e w5 ⟨rfl, h5⟩
                        rw [h5]
                        clear h5 hbl
                        go_upto_region 15 with fail
                        clear c0 c1 f1
                        replace hPk : Hid (RP w4.drew g B k 0 0 (.slice A n cc)) := hPk
                        replace hXk := Lib.hid (WordsAt.chg hXk.out (Chg.refl [] _).drew (by simp))
                        replace hV2 : Hid (CS w4.drew b (.int .i64 i) (.slice A2 n2 c2)) := hV2
                        replace hO2 := Lib.hid (own_drew hO2.out)
                        replace hC2 := Lib.hid hC2.out.drew
                        refine wp_region_any (by kernel_rfl) ?_
                        (try (change wpAny _ _ _ _ _ _ _ (World.drew _)))
                        refine wpAny_take (i := 0) (v := ?_) rfl (by kernel_rfl) (by kernel_rfl) (by kernel_rfl) (fun _ _ _ h => h) (Or.inl ⟨by kernel_rfl, ?_⟩) ?_
                        rotate_left
                        · (intro w; go_simp; try with_reducible rfl)
                        change wpAny _ _ _ _ _ _ (Act.put _ (some 91) _) _
                        (try simp only [Act.put, List.setIfInBounds_toArray, List.set_cons_zero, List.set_cons_succ])
                        (generalize World.drew w4 = w6 at hPk hXk hV2 hO2 hC2 ⊢; have d1 := hV2.out.c0.2)
                        refine wpAny_take (i := 2) (v := ?_) rfl (by kernel_rfl) (by kernel_rfl) (by kernel_rfl) (fun _ _ _ h => h) (Or.inl ⟨by kernel_rfl, ?_⟩) ?_
                        rotate_left
                        · (intro w; go_simp; try with_reducible rfl)
                        change wpAny _ _ _ _ _ _ (Act.put _ (some 93) _) _
                        (try simp only [Act.put, List.setIfInBounds_toArray, List.set_cons_zero, List.set_cons_succ])
                        refine wpAny_ready (rs := [1, 3]) (by kernel_rfl) (by simp) ?_
                        refine AllReady.cons rfl (fun K hK => ?_) ?_
                        · go_simp
                          (try (refine hK _ _ ?_; clear hK K))
                          (try simp only [Act.put, List.setIfInBounds_toArray, List.set_cons_zero, List.set_cons_succ])
                          refine wpAny_ready (rs := [3]) (by kernel_rfl) (by simp) ?_
                          refine AllReady.cons rfl (fun K hK => ?_) ?_
                          · go_simp
                            go_wp2_with (first
                                | (refine (hwd.out _ g k d (.slice A n cc) hsd hPk.out).mono ?_; rintro e w8 ⟨f, kd, A3, n3, c3, rfl, hC8, hA8, hcase⟩))
                            (try (refine hK _ _ ?_; clear hK K))
                            (try simp only [Act.put, List.setIfInBounds_toArray, List.set_cons_zero, List.set_cons_succ])
                            (obtain ⟨gk, hM, hgk, hV3, hO3, hC3⟩ := rc_word hsd hstd hst3.out hXk.out hO2.out hV2.out hgl hC2.out hlk.out hnk hC8 hA8 hcase; clear hV2 hO2 hC2; replace hM := Lib.hid hM; replace hV2 := Lib.hid hV3; replace hO2 := Lib.hid hO3; replace hC2 := Lib.hid hC3; have d1 := hV2.out.c0.2; have d1a : ∀ o : Obj, (w8.alloc o).cell? ⟨b, 1, none⟩ = some (Value.slice A2 n2 c2) := (fun o => by have h := blk_alloc hV2.out o; simp [World.cell?, h]); clear hPk hXk hC8 hcase hA8 hV3 hO3 hC3)
                            refine wpAny_ready (rs := [4]) (by kernel_rfl) (by simp) ?_
                            refine AllReady.cons rfl (fun K hK => ?_) ?_
                            · go_simp
                              (try (refine hK _ _ ?_; clear hK K))
                              (try simp only [Act.put, List.setIfInBounds_toArray, List.set_cons_zero, List.set_cons_succ])
                              refine wpAny_ready (rs := [5]) (by kernel_rfl) (by simp) ?_
                              refine AllReady.cons rfl (fun K hK => ?_) ?_
                              · (refine step_append_sl rfl (.tmp 92) (.tmp 95) 32 rfl (b + 1) 38 (.agg #[.int .i64 0, .int .i64 0, .slice none 0 0]) 3 40 Try.underlying32 Try.info_word rfl (by decide) _ n2 ys (hO2.out.alloc _) rfl _ 1 [.int .i64 f, .int .i64 kd, .slice A3 n3 c3] (sl_wide_new w8 _ 38 3 rfl) rfl (by intro u hu; simp at hu; rcases hu with rfl | rfl | rfl <;> rfl) (n2 + 1) rfl (by omega) (by decide) (by have h1 := lt_heap hV2.out; have h2 : (w8.alloc (.cells #[.int .i64 f, .int .i64 kd, .slice A3 n3 c3] 38)).heap.size = w8.heap.size + 1 := Array.size_push ..; omega) ?_; intro A' c' w9 hO' hCh hat; obtain ⟨q1, q2, q3, q5, q6, q7⟩ := row_step1 hV2.out hO2.out hb hC2.out hO' hCh; replace q3 := Lib.hid q3; replace q5 := Lib.hid q5; replace q6 := Lib.hid q6; replace q7 := Lib.hid q7; replace hat := Lib.hid hat; clear hO' hCh; refine hK _ _ ?_; clear hK K)
                                (try simp only [Act.put, List.setIfInBounds_toArray, List.set_cons_zero, List.set_cons_succ])
                                refine wpAny_take (i := 6) (v := ?_) rfl (by kernel_rfl) (by kernel_rfl) (by kernel_rfl) (fun _ _ _ h => h) (Or.inl ⟨by kernel_rfl, ?_⟩) ?_
                                rotate_left
                                · (intro w; go_simp; try with_reducible rfl)
                                change wpAny _ _ _ _ _ _ (Act.put _ (some 97) _) _
                                (try simp only [Act.put, List.setIfInBounds_toArray, List.set_cons_zero, List.set_cons_succ])
                                refine wpAny_ready (rs := [7]) (by kernel_rfl) (by simp) ?_
                                refine AllReady.cons rfl (fun K hK => ?_) ?_
                                · go_simp
                                  (try (refine hK _ _ ?_; clear hK K))
                                  (try simp only [Act.put, List.setIfInBounds_toArray, List.set_cons_zero, List.set_cons_succ])
                                  refine wpAny_done (by kernel_rfl) ?_ _
                                  (try simp only [Act.put, List.setIfInBounds_toArray, List.set_cons_zero, List.set_cons_succ])
                                  go_wp2_with fail
                                  go_roundg gk
                                  case measure => omega
                                  case rel =>
                                    refine ⟨A', n2 + 1, c', _, Lib.hid q3.out, q5, q6, Lib.hid (hM.out.go q7.out (fun k hk => ?_) ?_)⟩
                                    · simp at hk
                                      rcases hk with hk | rfl
                                      · have := (hO2.out.lt k hk).1
                                        exact ⟨by omega, .inr (.inl hk)⟩
                                      · exact ⟨by omega, .inl (by omega)⟩
                                    · rcases hat.out with e | e
                                      · exact .inl e
                                      · exact .inr (fun q hq => by have := e q hq; simp at this; omega)
                                exact AllReady.nil
                              exact AllReady.nil
                            exact AllReady.nil
                          exact AllReady.nil
                        refine AllReady.cons rfl (fun K hK => ?_) ?_
                        · go_simp
                          go_wp2_with (first
                              | (refine (hwd.out _ g k d (.slice A n cc) hsd hPk.out).mono ?_; rintro e w8 ⟨f, kd, A3, n3, c3, rfl, hC8, hA8, hcase⟩))
                          (try (refine hK _ _ ?_; clear hK K))
                          (try simp only [Act.put, List.setIfInBounds_toArray, List.set_cons_zero, List.set_cons_succ])
                          (obtain ⟨gk, hM, hgk, hV3, hO3, hC3⟩ := rc_word hsd hstd hst3.out hXk.out hO2.out hV2.out hgl hC2.out hlk.out hnk hC8 hA8 hcase; clear hV2 hO2 hC2; replace hM := Lib.hid hM; replace hV2 := Lib.hid hV3; replace hO2 := Lib.hid hO3; replace hC2 := Lib.hid hC3; have d1 := hV2.out.c0.2; have d1a : ∀ o : Obj, (w8.alloc o).cell? ⟨b, 1, none⟩ = some (Value.slice A2 n2 c2) := (fun o => by have h := blk_alloc hV2.out o; simp [World.cell?, h]); clear hPk hXk hC8 hcase hA8 hV3 hO3 hC3)
                          refine wpAny_ready (rs := [1, 4]) (by kernel_rfl) (by simp) ?_
                          refine AllReady.cons rfl (fun K hK => ?_) ?_
                          · go_simp
                            (try (refine hK _ _ ?_; clear hK K))
                            (try simp only [Act.put, List.setIfInBounds_toArray, List.set_cons_zero, List.set_cons_succ])
                            refine wpAny_ready (rs := [4]) (by kernel_rfl) (by simp) ?_
                            refine AllReady.cons rfl (fun K hK => ?_) ?_
                            · go_simp
                              (try (refine hK _ _ ?_; clear hK K))
                              (try simp only [Act.put, List.setIfInBounds_toArray, List.set_cons_zero, List.set_cons_succ])
                              refine wpAny_ready (rs := [5]) (by kernel_rfl) (by simp) ?_
                              refine AllReady.cons rfl (fun K hK => ?_) ?_
                              · (refine step_append_sl rfl (.tmp 92) (.tmp 95) 32 rfl (b + 1) 38 (.agg #[.int .i64 0, .int .i64 0, .slice none 0 0]) 3 40 Try.underlying32 Try.info_word rfl (by decide) _ n2 ys (hO2.out.alloc _) rfl _ 1 [.int .i64 f, .int .i64 kd, .slice A3 n3 c3] (sl_wide_new w8 _ 38 3 rfl) rfl (by intro u hu; simp at hu; rcases hu with rfl | rfl | rfl <;> rfl) (n2 + 1) rfl (by omega) (by decide) (by have h1 := lt_heap hV2.out; have h2 : (w8.alloc (.cells #[.int .i64 f, .int .i64 kd, .slice A3 n3 c3] 38)).heap.size = w8.heap.size + 1 := Array.size_push ..; omega) ?_; intro A' c' w9 hO' hCh hat; obtain ⟨q1, q2, q3, q5, q6, q7⟩ := row_step1 hV2.out hO2.out hb hC2.out hO' hCh; replace q3 := Lib.hid q3; replace q5 := Lib.hid q5; replace q6 := Lib.hid q6; replace q7 := Lib.hid q7; replace hat := Lib.hid hat; clear hO' hCh; refine hK _ _ ?_; clear hK K)
                                (try simp only [Act.put, List.setIfInBounds_toArray, List.set_cons_zero, List.set_cons_succ])
                                refine wpAny_take (i := 6) (v := ?_) rfl (by kernel_rfl) (by kernel_rfl) (by kernel_rfl) (fun _ _ _ h => h) (Or.inl ⟨by kernel_rfl, ?_⟩) ?_
                                rotate_left
                                · (intro w; go_simp; try with_reducible rfl)
                                change wpAny _ _ _ _ _ _ (Act.put _ (some 97) _) _
                                (try simp only [Act.put, List.setIfInBounds_toArray, List.set_cons_zero, List.set_cons_succ])
                                refine wpAny_ready (rs := [7]) (by kernel_rfl) (by simp) ?_
                                refine AllReady.cons rfl (fun K hK => ?_) ?_
                                · go_simp
                                  (try (refine hK _ _ ?_; clear hK K))
                                  (try simp only [Act.put, List.setIfInBounds_toArray, List.set_cons_zero, List.set_cons_succ])
                                  refine wpAny_done (by kernel_rfl) ?_ _
                                  (try simp only [Act.put, List.setIfInBounds_toArray, List.set_cons_zero, List.set_cons_succ])
                                  go_wp2_with fail
                                  go_roundg gk
                                  case measure => omega
                                  case rel =>
                                    refine ⟨A', n2 + 1, c', _, Lib.hid q3.out, q5, q6, Lib.hid (hM.out.go q7.out (fun k hk => ?_) ?_)⟩
                                    · simp at hk
                                      rcases hk with hk | rfl
                                      · have := (hO2.out.lt k hk).1
                                        exact ⟨by omega, .inr (.inl hk)⟩
                                      · exact ⟨by omega, .inl (by omega)⟩
                                    · rcases hat.out with e | e
                                      · exact .inl e
                                      · exact .inr (fun q hq => by have := e q hq; simp at this; omega)
                                exact AllReady.nil
                              exact AllReady.nil
                            exact AllReady.nil
                          refine AllReady.cons rfl (fun K hK => ?_) ?_
                          · go_simp
                            (try (refine hK _ _ ?_; clear hK K))
                            (try simp only [Act.put, List.setIfInBounds_toArray, List.set_cons_zero, List.set_cons_succ])
                            refine wpAny_ready (rs := [1]) (by kernel_rfl) (by simp) ?_
                            refine AllReady.cons rfl (fun K hK => ?_) ?_
                            · go_simp
                              (try (refine hK _ _ ?_; clear hK K))
                              (try simp only [Act.put, List.setIfInBounds_toArray, List.set_cons_zero, List.set_cons_succ])
                              refine wpAny_ready (rs := [5]) (by kernel_rfl) (by simp) ?_
                              refine AllReady.cons rfl (fun K hK => ?_) ?_
                              · (refine step_append_sl rfl (.tmp 92) (.tmp 95) 32 rfl (b + 1) 38 (.agg #[.int .i64 0, .int .i64 0, .slice none 0 0]) 3 40 Try.underlying32 Try.info_word rfl (by decide) _ n2 ys (hO2.out.alloc _) rfl _ 1 [.int .i64 f, .int .i64 kd, .slice A3 n3 c3] (sl_wide_new w8 _ 38 3 rfl) rfl (by intro u hu; simp at hu; rcases hu with rfl | rfl | rfl <;> rfl) (n2 + 1) rfl (by omega) (by decide) (by have h1 := lt_heap hV2.out; have h2 : (w8.alloc (.cells #[.int .i64 f, .int .i64 kd, .slice A3 n3 c3] 38)).heap.size = w8.heap.size + 1 := Array.size_push ..; omega) ?_; intro A' c' w9 hO' hCh hat; obtain ⟨q1, q2, q3, q5, q6, q7⟩ := row_step1 hV2.out hO2.out hb hC2.out hO' hCh; replace q3 := Lib.hid q3; replace q5 := Lib.hid q5; replace q6 := Lib.hid q6; replace q7 := Lib.hid q7; replace hat := Lib.hid hat; clear hO' hCh; refine hK _ _ ?_; clear hK K)
                                (try simp only [Act.put, List.setIfInBounds_toArray, List.set_cons_zero, List.set_cons_succ])
                                refine wpAny_take (i := 6) (v := ?_) rfl (by kernel_rfl) (by kernel_rfl) (by kernel_rfl) (fun _ _ _ h => h) (Or.inl ⟨by kernel_rfl, ?_⟩) ?_
                                rotate_left
                                · (intro w; go_simp; try with_reducible rfl)
                                change wpAny _ _ _ _ _ _ (Act.put _ (some 97) _) _
                                (try simp only [Act.put, List.setIfInBounds_toArray, List.set_cons_zero, List.set_cons_succ])
                                refine wpAny_ready (rs := [7]) (by kernel_rfl) (by simp) ?_
                                refine AllReady.cons rfl (fun K hK => ?_) ?_
                                · go_simp
                                  (try (refine hK _ _ ?_; clear hK K))
                                  (try simp only [Act.put, List.setIfInBounds_toArray, List.set_cons_zero, List.set_cons_succ])
                                  refine wpAny_done (by kernel_rfl) ?_ _
                                  (try simp only [Act.put, List.setIfInBounds_toArray, List.set_cons_zero, List.set_cons_succ])
                                  go_wp2_with fail
                                  go_roundg gk
                                  case measure => omega
                                  case rel =>
                                    refine ⟨A', n2 + 1, c', _, Lib.hid q3.out, q5, q6, Lib.hid (hM.out.go q7.out (fun k hk => ?_) ?_)⟩
                                    · simp at hk
                                      rcases hk with hk | rfl
                                      · have := (hO2.out.lt k hk).1
                                        exact ⟨by omega, .inr (.inl hk)⟩
                                      · exact ⟨by omega, .inl (by omega)⟩
                                    · rcases hat.out with e | e
                                      · exact .inl e
                                      · exact .inr (fun q hq => by have := e q hq; simp at this; omega)
                                exact AllReady.nil
                              exact AllReady.nil
                            exact AllReady.nil
                          exact AllReady.nil
                        exact AllReady.nil
                  · obtain rfl : k = s.length := by omega
                    have hmo := Lib.hid (more_ref wr g B s.length 0 0 _ hPk.out false (by simp; omega))
                    have hE := hck.trans (command_none (List.getElem?_eq_none (Nat.le_refl _)))
                    have hout : Hid (∀ wx, Chg [] wr wx → RcOut b wx g s B i (.slice A n cc) (Value.slice A2 n2 c2).ownBlock ys n2) := Lib.hid (fun wx hc => .inl ⟨ws, s.length, hPk.out.chg hc (by simp), hXk.out.chg hc (by simp), hlk.out.symm, hE⟩)
                    clear hck hE
                    go_wp2_with fail
                    refine (hmo.out).mono ?_
                    rintro e w4 ⟨rfl, hC4⟩
                    replace hout := Lib.hid (hout.out _ hC4)
                    replace hV2 := Lib.hid (CS.chg hV2.out hC4 (by simp))
                    replace hO2 := Lib.hid (own_chg hO2.out hC4 (by simp))
                    replace hC2 := Lib.hid (hC2.out.trans (hC4.mono (by simp)))
                    clear hmo hC4 hPk hXk
                    go_wp2_with fail
                    go_meet
                    exact ⟨A2, n2, c2, ys, hV2, hO2, hC2, hout⟩
                · clear hgo
                  have hmo := Lib.hid (more_ref wr g B j q p _ hPk false (by have h9 : (q : Int) ≠ 0 := (by omega); simp [h9]; intro h; omega))
                  have hout : Hid (∀ wx, Chg [] wr wx → RcOut b wx g s B i (.slice A n cc) (Value.slice A2 n2 c2).ownBlock ys n2) := Lib.hid (fun wx hc => .inr ⟨p, q, j, hPk.chg hc (by simp), hck, hq0⟩)
                  clear hck hPk
                  go_wp2_with fail
                  refine (hmo.out).mono ?_
                  rintro e w4 ⟨rfl, hC4⟩
                  replace hout := Lib.hid (hout.out _ hC4)
                  replace hV2 := Lib.hid (CS.chg hV2.out hC4 (by simp))
                  replace hO2 := Lib.hid (own_chg hO2.out hC4 (by simp))
                  replace hC2 := Lib.hid (hC2.out.trans (hC4.mono (by simp)))
                  clear hmo hC4
                  go_wp2_with fail
                  go_meet
                  exact ⟨A2, n2, c2, ys, hV2, hO2, hC2, hout⟩
            case rest =>
              obtain ⟨A2, n2, c2, ys, hV2, hO2, hC2, hout⟩ := hcut
              clear hV hP hC
              have hD := (Chg.refl [] wc).drew
              have hV6 := CS.chg hV2.out hD (by simp)
              have hO6 := own_chg hO2.out hD (by simp)
              have hC6 := hC2.out.trans (hD.mono (by simp))
              have hout6 := hout.out.chg hD
              have c4 := hout6.c4
              obtain ⟨d0, d1⟩ := hV6.c0
              have hOw := own_chg hG.out.O hC6 (fun q hq hm => by have := (hG.out.O.lt q hq).1; simp at hm; omega)
              replace hV6 := Lib.hid hV6
              replace hO6 := Lib.hid hO6
              replace hC6 := Lib.hid hC6
              replace hout6 := Lib.hid hout6
              replace hOw := Lib.hid hOw
              clear hV2 hO2 hC2 hout hD
              go_upto_region 16 with fail
              refine wp_region_any (by kernel_rfl) ?_
              (try (change wpAny _ _ _ _ _ _ _ (World.drew _)))
              refine wpAny_take (i := 0) (v := ?_) rfl (by kernel_rfl) (by kernel_rfl) (by kernel_rfl) (fun _ _ _ h => h) (Or.inl ⟨by kernel_rfl, ?_⟩) ?_
              rotate_left
              · (intro w; go_simp; try with_reducible rfl)
              change wpAny _ _ _ _ _ _ (Act.put _ (some 98) _) _
              (try simp only [Act.put, List.setIfInBounds_toArray, List.set_cons_zero, List.set_cons_succ])
              (generalize World.drew wc = w6 at hV6 hO6 hC6 hout6 hOw c4 d0 d1 ⊢; have c4a : ∀ o : Obj, (w6.alloc o).cell? ⟨g, 4, none⟩ = some (Value.slice A n cc) := (fun o => ((Chg.refl [] w6).alloc o).cell c4 (by simp)))
              refine wpAny_take (i := 1) (v := ?_) rfl (by kernel_rfl) (by kernel_rfl) (by kernel_rfl) (fun _ _ _ h => h) (Or.inl ⟨by kernel_rfl, ?_⟩) ?_
              rotate_left
              · (intro w; go_simp; try with_reducible rfl)
              change wpAny _ _ _ _ _ _ (Act.put _ (some 99) _) _
              (try simp only [Act.put, List.setIfInBounds_toArray, List.set_cons_zero, List.set_cons_succ])
              refine wpAny_take (i := 2) (v := ?_) rfl (by kernel_rfl) (by kernel_rfl) (by kernel_rfl) (fun _ _ _ h => h) (Or.inl ⟨by kernel_rfl, ?_⟩) ?_
              rotate_left
              · (intro w; go_simp; try with_reducible rfl)
              change wpAny _ _ _ _ _ _ (Act.put _ (some 100) _) _
              (try simp only [Act.put, List.setIfInBounds_toArray, List.set_cons_zero, List.set_cons_succ])
              refine wpAny_take (i := 3) (v := ?_) rfl (by kernel_rfl) (by kernel_rfl) (by kernel_rfl) (fun _ _ _ h => h) (Or.inl ⟨by kernel_rfl, ?_⟩) ?_
              rotate_left
              · (intro w; go_simp; try with_reducible rfl)
              change wpAny _ _ _ _ _ _ (Act.put _ (some 101) _) _
              (try simp only [Act.put, List.setIfInBounds_toArray, List.set_cons_zero, List.set_cons_succ])
              refine wpAny_ready (rs := [4, 5]) (by kernel_rfl) (by simp) ?_
              refine AllReady.cons rfl (fun K hK => ?_) ?_
              · go_simp
                (try (refine hK _ _ ?_; clear hK K))
                (try simp only [Act.put, List.setIfInBounds_toArray, List.set_cons_zero, List.set_cons_succ])
                refine wpAny_ready (rs := [5]) (by kernel_rfl) (by simp) ?_
                refine AllReady.cons rfl (fun K hK => ?_) ?_
                · go_simp
                  (try (refine hK _ _ ?_; clear hK K))
                  (try simp only [Act.put, List.setIfInBounds_toArray, List.set_cons_zero, List.set_cons_succ])
                  refine wpAny_ready (rs := [6]) (by kernel_rfl) (by simp) ?_
                  refine AllReady.cons rfl (fun K hK => ?_) ?_
                  · go_simp
                    (try (refine hK _ _ ?_; clear hK K))
                    (try simp only [Act.put, List.setIfInBounds_toArray, List.set_cons_zero, List.set_cons_succ])
                    refine wpAny_ready (rs := [7]) (by kernel_rfl) (by simp) ?_
                    refine AllReady.cons rfl (fun K hK => ?_) ?_
                    · (refine step_append_sl rfl (.tmp 102) (.tmp 104) 65 rfl (g + 1) 69 (.agg #[.int .i64 0, .slice none 0 0]) 2 32 Try.underlying65 Try.info_command rfl (by decide) _ n xs (hOw.out.alloc _) rfl _ 1 [.int .i64 i, .slice A2 n2 c2] (sl_wide_new w6 _ 69 2 rfl) rfl (by intro u hu; simp at hu; rcases hu with rfl | rfl <;> rfl) (n + 1) rfl (by omega) (by decide) (by have h1 := lt_heap hV6.out; have h2 : (w6.alloc (.cells #[.int .i64 i, .slice A2 n2 c2] 69)).heap.size = w6.heap.size + 1 := Array.size_push ..; omega) ?_; intro A' c' w9 hO' hCh hat; obtain ⟨⟨p1, p2⟩, gk, hgk, hgo⟩ := rp_cmd hsc hstp hst2.out hG.out.X hG.out.O hlen.out hni hg hG.out.C hb hgl hO6.out hC6.out hout6.out hO' (((Chg.refl _ w6).alloc _).trans hCh) (hat.imp id (fun h q hq => Nat.le_trans (by simp) (h q hq))); replace hgo := Lib.hid hgo; clear hO' hCh hat d0 d1 c4 c4a; refine hK _ _ ?_; clear hK K)
                      (try simp only [Act.put, List.setIfInBounds_toArray, List.set_cons_zero, List.set_cons_succ])
                      refine wpAny_take (i := 8) (v := ?_) rfl (by kernel_rfl) (by kernel_rfl) (by kernel_rfl) (fun _ _ _ h => h) (Or.inl ⟨by kernel_rfl, ?_⟩) ?_
                      rotate_left
                      · (intro w; go_simp; try with_reducible rfl)
                      change wpAny _ _ _ _ _ _ (Act.put _ (some 106) _) _
                      (try simp only [Act.put, List.setIfInBounds_toArray, List.set_cons_zero, List.set_cons_succ])
                      refine wpAny_take (i := 9) (v := ?_) rfl (by kernel_rfl) (by kernel_rfl) (by kernel_rfl) (fun _ _ _ h => h) (Or.inl ⟨by kernel_rfl, ?_⟩) ?_
                      rotate_left
                      · (intro w; go_simp; try with_reducible rfl)
                      change wpAny _ _ _ _ _ _ (Act.put _ (some 107) _) _
                      (try simp only [Act.put, List.setIfInBounds_toArray, List.set_cons_zero, List.set_cons_succ])
                      refine wpAny_ready (rs := [10]) (by kernel_rfl) (by simp) ?_
                      refine AllReady.cons rfl (fun K hK => ?_) ?_
                      · go_simp
                        (try (refine hK _ _ ?_; clear hK K))
                        (try simp only [Act.put, List.setIfInBounds_toArray, List.set_cons_zero, List.set_cons_succ])
                        refine wpAny_done (by kernel_rfl) ?_ _
                        (try simp only [Act.put, List.setIfInBounds_toArray, List.set_cons_zero, List.set_cons_succ])
                        go_wp2_with fail
                        go_roundg gk
                        case measure => omega
                        case rel => exact ⟨A', n + 1, c', _, hgo⟩
                      exact AllReady.nil
                    exact AllReady.nil
                  exact AllReady.nil
                exact AllReady.nil
              refine AllReady.cons rfl (fun K hK => ?_) ?_
              · go_simp
                (try (refine hK _ _ ?_; clear hK K))
                (try simp only [Act.put, List.setIfInBounds_toArray, List.set_cons_zero, List.set_cons_succ])
                refine wpAny_ready (rs := [4, 6]) (by kernel_rfl) (by simp) ?_
                refine AllReady.cons rfl (fun K hK => ?_) ?_
                · go_simp
                  (try (refine hK _ _ ?_; clear hK K))
                  (try simp only [Act.put, List.setIfInBounds_toArray, List.set_cons_zero, List.set_cons_succ])
                  refine wpAny_ready (rs := [6]) (by kernel_rfl) (by simp) ?_
                  refine AllReady.cons rfl (fun K hK => ?_) ?_
                  · go_simp
                    (try (refine hK _ _ ?_; clear hK K))
                    (try simp only [Act.put, List.setIfInBounds_toArray, List.set_cons_zero, List.set_cons_succ])
                    refine wpAny_ready (rs := [7]) (by kernel_rfl) (by simp) ?_
                    refine AllReady.cons rfl (fun K hK => ?_) ?_
                    · (refine step_append_sl rfl (.tmp 102) (.tmp 104) 65 rfl (g + 1) 69 (.agg #[.int .i64 0, .slice none 0 0]) 2 32 Try.underlying65 Try.info_command rfl (by decide) _ n xs (hOw.out.alloc _) rfl _ 1 [.int .i64 i, .slice A2 n2 c2] (sl_wide_new w6 _ 69 2 rfl) rfl (by intro u hu; simp at hu; rcases hu with rfl | rfl <;> rfl) (n + 1) rfl (by omega) (by decide) (by have h1 := lt_heap hV6.out; have h2 : (w6.alloc (.cells #[.int .i64 i, .slice A2 n2 c2] 69)).heap.size = w6.heap.size + 1 := Array.size_push ..; omega) ?_; intro A' c' w9 hO' hCh hat; obtain ⟨⟨p1, p2⟩, gk, hgk, hgo⟩ := rp_cmd hsc hstp hst2.out hG.out.X hG.out.O hlen.out hni hg hG.out.C hb hgl hO6.out hC6.out hout6.out hO' (((Chg.refl _ w6).alloc _).trans hCh) (hat.imp id (fun h q hq => Nat.le_trans (by simp) (h q hq))); replace hgo := Lib.hid hgo; clear hO' hCh hat d0 d1 c4 c4a; refine hK _ _ ?_; clear hK K)
                      (try simp only [Act.put, List.setIfInBounds_toArray, List.set_cons_zero, List.set_cons_succ])
                      refine wpAny_take (i := 8) (v := ?_) rfl (by kernel_rfl) (by kernel_rfl) (by kernel_rfl) (fun _ _ _ h => h) (Or.inl ⟨by kernel_rfl, ?_⟩) ?_
                      rotate_left
                      · (intro w; go_simp; try with_reducible rfl)
                      change wpAny _ _ _ _ _ _ (Act.put _ (some 106) _) _
                      (try simp only [Act.put, List.setIfInBounds_toArray, List.set_cons_zero, List.set_cons_succ])
                      refine wpAny_take (i := 9) (v := ?_) rfl (by kernel_rfl) (by kernel_rfl) (by kernel_rfl) (fun _ _ _ h => h) (Or.inl ⟨by kernel_rfl, ?_⟩) ?_
                      rotate_left
                      · (intro w; go_simp; try with_reducible rfl)
                      change wpAny _ _ _ _ _ _ (Act.put _ (some 107) _) _
                      (try simp only [Act.put, List.setIfInBounds_toArray, List.set_cons_zero, List.set_cons_succ])
                      refine wpAny_ready (rs := [10]) (by kernel_rfl) (by simp) ?_
                      refine AllReady.cons rfl (fun K hK => ?_) ?_
                      · go_simp
                        (try (refine hK _ _ ?_; clear hK K))
                        (try simp only [Act.put, List.setIfInBounds_toArray, List.set_cons_zero, List.set_cons_succ])
                        refine wpAny_done (by kernel_rfl) ?_ _
                        (try simp only [Act.put, List.setIfInBounds_toArray, List.set_cons_zero, List.set_cons_succ])
                        go_wp2_with fail
                        go_roundg gk
                        case measure => omega
                        case rel => exact ⟨A', n + 1, c', _, hgo⟩
                      exact AllReady.nil
                    exact AllReady.nil
                  exact AllReady.nil
                refine AllReady.cons rfl (fun K hK => ?_) ?_
                · go_simp
                  (try (refine hK _ _ ?_; clear hK K))
                  (try simp only [Act.put, List.setIfInBounds_toArray, List.set_cons_zero, List.set_cons_succ])
                  refine wpAny_ready (rs := [4]) (by kernel_rfl) (by simp) ?_
                  refine AllReady.cons rfl (fun K hK => ?_) ?_
                  · go_simp
                    (try (refine hK _ _ ?_; clear hK K))
                    (try simp only [Act.put, List.setIfInBounds_toArray, List.set_cons_zero, List.set_cons_succ])
                    refine wpAny_ready (rs := [7]) (by kernel_rfl) (by simp) ?_
                    refine AllReady.cons rfl (fun K hK => ?_) ?_
                    · (refine step_append_sl rfl (.tmp 102) (.tmp 104) 65 rfl (g + 1) 69 (.agg #[.int .i64 0, .slice none 0 0]) 2 32 Try.underlying65 Try.info_command rfl (by decide) _ n xs (hOw.out.alloc _) rfl _ 1 [.int .i64 i, .slice A2 n2 c2] (sl_wide_new w6 _ 69 2 rfl) rfl (by intro u hu; simp at hu; rcases hu with rfl | rfl <;> rfl) (n + 1) rfl (by omega) (by decide) (by have h1 := lt_heap hV6.out; have h2 : (w6.alloc (.cells #[.int .i64 i, .slice A2 n2 c2] 69)).heap.size = w6.heap.size + 1 := Array.size_push ..; omega) ?_; intro A' c' w9 hO' hCh hat; obtain ⟨⟨p1, p2⟩, gk, hgk, hgo⟩ := rp_cmd hsc hstp hst2.out hG.out.X hG.out.O hlen.out hni hg hG.out.C hb hgl hO6.out hC6.out hout6.out hO' (((Chg.refl _ w6).alloc _).trans hCh) (hat.imp id (fun h q hq => Nat.le_trans (by simp) (h q hq))); replace hgo := Lib.hid hgo; clear hO' hCh hat d0 d1 c4 c4a; refine hK _ _ ?_; clear hK K)
                      (try simp only [Act.put, List.setIfInBounds_toArray, List.set_cons_zero, List.set_cons_succ])
                      refine wpAny_take (i := 8) (v := ?_) rfl (by kernel_rfl) (by kernel_rfl) (by kernel_rfl) (fun _ _ _ h => h) (Or.inl ⟨by kernel_rfl, ?_⟩) ?_
                      rotate_left
                      · (intro w; go_simp; try with_reducible rfl)
                      change wpAny _ _ _ _ _ _ (Act.put _ (some 106) _) _
                      (try simp only [Act.put, List.setIfInBounds_toArray, List.set_cons_zero, List.set_cons_succ])
                      refine wpAny_take (i := 9) (v := ?_) rfl (by kernel_rfl) (by kernel_rfl) (by kernel_rfl) (fun _ _ _ h => h) (Or.inl ⟨by kernel_rfl, ?_⟩) ?_
                      rotate_left
                      · (intro w; go_simp; try with_reducible rfl)
                      change wpAny _ _ _ _ _ _ (Act.put _ (some 107) _) _
                      (try simp only [Act.put, List.setIfInBounds_toArray, List.set_cons_zero, List.set_cons_succ])
                      refine wpAny_ready (rs := [10]) (by kernel_rfl) (by simp) ?_
                      refine AllReady.cons rfl (fun K hK => ?_) ?_
                      · go_simp
                        (try (refine hK _ _ ?_; clear hK K))
                        (try simp only [Act.put, List.setIfInBounds_toArray, List.set_cons_zero, List.set_cons_succ])
                        refine wpAny_done (by kernel_rfl) ?_ _
                        (try simp only [Act.put, List.setIfInBounds_toArray, List.set_cons_zero, List.set_cons_succ])
                        go_wp2_with fail
                        go_roundg gk
                        case measure => omega
                        case rel => exact ⟨A', n + 1, c', _, hgo⟩
                      exact AllReady.nil
                    exact AllReady.nil
                  exact AllReady.nil
                exact AllReady.nil
              exact AllReady.nil
      · obtain rfl : i = s.length := by omega
        have hE := Lib.hid (hpg.trans (parse_none (List.getElem?_eq_none (Nat.le_refl _))))
        have hmo := more_ref wr g B s.length 0 0 _ hG.P false (by simp; omega)
        clear hpg
        replace hG := Lib.hid hG
        replace hmo := Lib.hid hmo
        go_wp2_with fail
        refine (hmo.out).mono ?_
        rintro e w2 ⟨rfl, hC2⟩
        replace hG := Lib.hid (hG.out.chg hC2)
        clear hmo hC2
        obtain ⟨-, -, c2, -, c4⟩ := hG.out.P.c0
        go_wp2_with fail
        (try rw [Exit.noGoto_ret])
        go_ret3
        exact ⟨hG.out.C, .inl ⟨A, n, cc, xs, cs, rfl, hE0.out.trans hE.out, hlen.out.symm, own_sl hG.out.O, hG.out.X.less (by omega), fun q hq => by have := (hG.out.O.lt q hq).1; omega, hni⟩⟩
    · have hE := Lib.hid hpg
      have hmo := more_ref wr g B j q p _ hP false (by have h9 : (q : Int) ≠ 0 := (by omega); simp [h9]; intro h; omega)
      replace hP := Lib.hid hP
      replace hmo := Lib.hid hmo
      replace hC := Lib.hid hC
      have hqq : ((q : Int) == 0) = false := by rw [beq_eq_false_iff_ne]; omega
      have hqn : ((q : Int) != 0) = true := by simp only [bne]; rw [hqq]; rfl
      clear hO hpg
      go_wp2_with fail
      refine (hmo.out).mono ?_
      rintro e w2 ⟨rfl, hC2⟩
      replace hP := Lib.hid (hP.out.chg hC2 (by simp))
      replace hC := Lib.hid (hC.out.trans hC2)
      clear hmo hC2
      obtain ⟨-, -, c2, c3, c4⟩ := hP.out.c0
      replace hq0 := Lib.hid hq0
      go_wp2_with fail
      go_quiet (fail)
      go_wp2_with fail
      (try rw [Exit.noGoto_ret])
      go_ret3
      exact ⟨hC.out.drewN _, .inr ⟨p, q, rfl, hE0.out.trans hE.out, hq0.out⟩⟩
end Rt
end Go.Proofs.Ytakcolililbkjaa
