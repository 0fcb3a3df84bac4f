/- The contract of Matcher.Feed. Conditions: as it states. -/
import Derived.Test.YtojgdmpnbgikeaaMs
import Derived.Deep.LoopGhost
set_option linter.unusedVariables false
set_option linter.unusedSimpArgs false
namespace Go.Proofs.Ytojgdmpnbgikeaa
open Go.RowKit PMatchFeeds YtojgdmpnbgikeaaW.PrintWords
namespace Mt
open Kmp Glob
theorem lastN_again (k : Nat) (a b : List Int) : lastN k (lastN k a ++ b) = lastN k (a ++ b) := by
  obtain ⟨p, hp⟩ := lastN_suffix k a
  have hl := lastN_length k a
  rcases Nat.lt_or_ge a.length k with h | h
  · have : lastN k a = a := by unfold lastN; rw [show a.length - k = 0 by omega]; rfl
    rw [this]
  · have hal : a ++ b = p ++ (lastN k a ++ b) := by rw [← List.append_assoc, ← hp]
    exact (lastN_of_suffix hal (by rw [List.length_append, hl]; omega)).symm
theorem lastN_ns (k : Nat) (T : List UInt8) : lastN k (ns T) = ns (lastB k T) := by
  unfold lastN lastB ns; rw [List.length_map, List.map_drop]
/-- What a hit is, as a value. -/
def hitV : Option (Nat × Nat) → Nat → Value
  | some (i, f), n => .tuple #[.agg #[.int .i64 i, .int .i64 f, .int .i64 n], .bool true]
  | none, _ => .tuple #[.agg #[.int .i64 0, .int .i64 0, .int .i64 0], .bool false]
def FdEnd (w : World) (F : Nat → Prop) (g : Nat) (l : List Br) (most : Nat) (T : List UInt8) (e : Ending) (w' : World) : Prop :=
  e = .returned (hitV (hitOf most l T) T.length) ∧ ∃ F' : Nat → Prop, MS w' F' g l most T ∧ (∀ k, F' k → F k ∨ w.heap.size ≤ k) ∧ ∃ S, Chg S w w' ∧ ∀ k ∈ S, F k
/-- How far the loop over the looks is: nothing yet, or the hit. -/
def FdGo (w : World) (bh : Nat) (l : List Br) (most : Nat) (T : List UInt8) (k : Nat) (b : Bool) : Prop :=
  (b = false ∧ Upto most l T k ∧ w.heap[bh]? = some (.cells #[.int .i64 0, .int .i64 0, .int .i64 0] 34 (0, 0)))
  ∨ (b = true ∧ ∃ i f, hitOf most l T = some (i, f) ∧ w.heap[bh]? = some (.cells #[.int .i64 i, .int .i64 f, .int .i64 T.length] 34 (0, 0)))
theorem FdGo.chg {S : List Nat} {w w' : World} {bh : Nat} {l : List Br} {most : Nat} {T : List UInt8} {k : Nat} {b : Bool} (h : FdGo w bh l most T k b) (hc : Chg S w w') (hb : bh ∉ S) : FdGo w' bh l most T k b := by
  rcases h with ⟨h1, h2, h3⟩ | ⟨h1, i, f, h2, h3⟩
  · exact .inl ⟨h1, h2, hc.heap h3 hb⟩
  · exact .inr ⟨h1, i, f, h2, hc.heap h3 hb⟩
theorem FdGo.none {w : World} {bh : Nat} {l : List Br} {most : Nat} {T : List UInt8} {k : Nat} {b : Bool} {x : Br} (h : FdGo w bh l most T k b) (hx : l[k]? = some x) (hf : fromOf most x T = none ∨ b = true) : FdGo w bh l most T (k + 1) b := by
  rcases h with ⟨h1, h2, h3⟩ | h
  · refine .inl ⟨h1, fun j y hj hy => ?_, h3⟩
    rcases Nat.lt_or_ge j k with hlt | hge
    · exact h2 j y hlt hy
    · obtain rfl : j = k := by omega
      rw [hx] at hy; cases hy
      rcases hf with hf | hf
      · exact hf
      · rw [h1] at hf; cases hf
  · exact .inr h
/-- Everything behind the loop over the looks. -/
theorem fd_done {w wL wr w' : World} {F : Nat → Prop} {g gw : Nat} {r : Option Nat} {l : List Br} {most : Nat} {T : List UInt8} {Ab Al : Option Addr} {cb cl h bh b4 : Nat} {us : List Value} {I : List (Nat × Nat)} {b : Bool} {S1 S2 : List Nat}
    (h1 : wL.heap[g]? = some (.cells #[.slice Ab l.length cb, .int .i64 most, .slice Al l.length cl, .pointer (some ⟨gw, 0, none⟩), .bool (l.any fun x => x.kind == 1)] 56 (0, 0)))
    (h2 : wL.ownsRow 0 45 2 (.slice Ab l.length cb) l.length (brCells l)) (h3 : Win wL gw r most T.length h (lastN most (ns T))) (h4 : wL.ownsRow 0 68 1 (.slice Al l.length cl) l.length us)
    (h5 : LooksAt wr most l us I (fun _ => T)) (hL : Chg S1 w wL) (hS1 : ∀ k ∈ S1, F k) (hR : Chg S2 wL wr) (hS2 : ∀ k ∈ S2, k = bh ∨ ∃ p ∈ I, p.1 ≤ k ∧ k < p.2) (hw : Chg [b4] wr w') (hb4 : w.heap.size ≤ b4) (hbh : w.heap.size ≤ bh)
    (hF : ∀ k, Held g gw r (.slice Ab l.length cb) (.slice Al l.length cl) I k → F k ∨ w.heap.size ≤ k) (hFw : ∀ k, F k → k < w.heap.size) (hI : ∀ p ∈ I, ∀ k, p.1 ≤ k → k < p.2 → F k ∧ k ≠ g ∧ k ≠ gw ∧ r ≠ some k ∧ (Value.slice Ab l.length cb).ownBlock ≠ some k ∧ (Value.slice Al l.length cl).ownBlock ≠ some k)
    (hn : ∀ k, Held g gw r (.slice Ab l.length cb) (.slice Al l.length cl) I k → k ≠ bh ∧ k ≠ b4) (h64 : l.length ≤ 64) :
    ∃ F' : Nat → Prop, MS w' F' g l most T ∧ (∀ k, F' k → F k ∨ w.heap.size ≤ k) ∧ ∃ S, Chg S w w' ∧ ∀ k ∈ S, F k := by
  have hRw : Chg (S2 ++ [b4]) wL w' := (hR.mono (fun x hx => .inl (List.mem_append_left _ hx))).trans (hw.mono (fun x hx => .inl (List.mem_append_right _ hx)))
  have hm : ∀ k, k ∈ S2 ++ [b4] → k = bh ∨ k = b4 ∨ ∃ p ∈ I, p.1 ≤ k ∧ k < p.2 := fun k hk => by
    rcases List.mem_append.1 hk with hk | hk
    · rcases hS2 k hk with h | h
      · exact .inl h
      · exact .inr (.inr h)
    · simp at hk; exact .inr (.inl hk)
  have hout : ∀ k, (k = g ∨ k = gw ∨ r = some k ∨ (Value.slice Ab l.length cb).ownBlock = some k ∨ (Value.slice Al l.length cl).ownBlock = some k) → k ∉ S2 ++ [b4] := fun k hk hmem => by
    have hH : Held g gw r (.slice Ab l.length cb) (.slice Al l.length cl) I k := by
      rcases hk with h | h | h | h | h
      · exact .inl h
      · exact .inr (.inl h)
      · exact .inr (.inr (.inl h))
      · exact .inr (.inr (.inr (.inl h)))
      · exact .inr (.inr (.inr (.inr (.inl h))))
    rcases hm k hmem with e | e | ⟨p, hp, a, c⟩
    · exact (hn k hH).1 e
    · exact (hn k hH).2 e
    · have := hI p hp k a c
      rcases hk with h | h | h | h | h
      · exact this.2.1 h
      · exact this.2.2.1 h
      · exact this.2.2.2.1 h
      · exact this.2.2.2.2.1 h
      · exact this.2.2.2.2.2 h
  have hLw' : LooksAt w' most l us I (fun _ => T) := h5.chg hw (fun k hk p hp => by
    simp at hk; subst hk
    have hlt := fun j (hj : p.1 ≤ j ∧ j < p.2) => hFw j (hI p hp j hj.1 hj.2).1
    rcases Nat.lt_or_ge k p.1 with h10 | h10
    · exact .inl h10
    · rcases Nat.lt_or_ge k p.2 with h11 | h11
      · have := hlt k ⟨h10, h11⟩; omega
      · exact .inr h11)
  refine ⟨Held g gw r (.slice Ab l.length cb) (.slice Al l.length cl) I, ⟨Ab, cb, Al, cl, gw, r, h, us, I, hRw.heap h1 (hout g (.inl rfl)), own_chg h2 hRw (fun k hk => hout k (.inr (.inr (.inr (.inl hk))))), h3.chg hRw (hout gw (.inr (.inl rfl))) (fun k hk => hout k (.inr (.inr (.inl hk)))),
    own_chg h4 hRw (fun k hk => hout k (.inr (.inr (.inr (.inr hk))))), hLw', fun k hk => hk, fun k hk => ?_, fun p hp k a c => (hI p hp k a c).2, h64⟩, hF, S1 ++ S2.filter (fun k => decide (k < w.heap.size)), ?_, fun k hk => ?_⟩
  · have hs := hRw.size
    have hs0 := hL.size
    rcases hk with h | h | h | h | h | ⟨p, hp, a, c⟩
    · subst h; have := lt_heap h1; omega
    · subst h; have := h3.lt.1; omega
    · have := (h3.lt.2 k h).1; omega
    · have := (h2.lt k h).2; omega
    · have := (h4.lt k h).2; omega
    · have := hFw k (hI p hp k a c).1; omega
  · refine ((hL.mono (fun x hx => .inl (List.mem_append_left _ hx))).then hRw (fun x hx => ?_))
    rcases Nat.lt_or_ge x w.heap.size with h | h
    · rcases List.mem_append.1 hx with hx | hx
      · exact .inl (List.mem_append_right _ (by simp [hx, h]))
      · simp at hx; omega
    · exact .inr h
  · rcases List.mem_append.1 hk with hk | hk
    · exact hS1 k hk
    · simp at hk
      rcases hS2 k hk.1 with h | ⟨p, hp, a, c⟩
      · omega
      · exact (hI p hp k a c).1
set_option maxRecDepth 100000 in
set_option maxHeartbeats 16000000 in
theorem mfeed_any (w : World) (F : Nat → Prop) (g : Nat) (l : List Br) (most : Nat) (T : List UInt8) (c : UInt8) (H : MS w F g l most T) (hT : T.length < 900000) :
    Calls Try.prog 16 #[.pointer (some ⟨g, 0, none⟩), .int .u8 c.toNat] w (FdEnd w F g l most (T ++ [c])) := by
  obtain ⟨Ab, cb, Al, cl, gw, r, h, us, I, h1, h2, h3, h4, h5, h6, h7, h8, h9⟩ := H
  have hgl := lt_heap h1
  have hwl := h3.lt
  obtain ⟨-, -, hm1, hm2, -, -⟩ := h3.bounds
  have k2 : w.cell? ⟨g, 2, none⟩ = some (.slice Al l.length cl) := by simp [World.cell?, h1]
  have k3 : w.cell? ⟨g, 3, none⟩ = some (.pointer (some ⟨gw, 0, none⟩)) := by simp [World.cell?, h1]
  have k4 : w.cell? ⟨g, 4, none⟩ = some (.bool (l.any fun x => x.kind == 1)) := by simp [World.cell?, h1]
  obtain ⟨gb, hgb⟩ : ∃ gb, (l.any fun x => x.kind == 1) = gb := ⟨_, rfl⟩
  rw [hgb] at k4
  have hwA : ∃ W, (w.alloc (.cells #[.int .i64 0, .int .i64 0, .int .i64 0] 34)).alloc (.cells #[.int .u8 c.toNat] 5) = W := ⟨_, rfl⟩
  obtain ⟨W, hW⟩ := hwA
  have hsz1 : (w.alloc (.cells #[.int .i64 0, .int .i64 0, .int .i64 0] 34)).heap.size = w.heap.size + 1 := Array.size_push ..
  have hC1 : Chg [] w W := by rw [← hW]; exact ((Chg.refl [] w).alloc _).alloc _
  have hszW : W.heap.size = w.heap.size + 2 := by rw [← hW]; simp
  have hSl : Sl W 1 (.slice (some ⟨w.heap.size + 1, 0, none⟩) 1 1) 1 (cellsOf .u8 [(c.toNat : Int)]) := by
    have := sl_new (w.alloc (.cells #[.int .i64 0, .int .i64 0, .int .i64 0] 34)) (cellsOf .u8 [(c.toNat : Int)]) 5 1 rfl (by simp [maxLen])
    rw [hsz1] at this
    rw [← hW]; exact this
  have hput := put_any W gw r most T.length h (lastN most (ns T)) (h3.chg hC1 (by simp) (by simp)) _ [(c.toNat : Int)] hSl (fun _ q hq => by
    simp [Value.ownBlock] at hq
    refine ⟨by omega, fun e => ?_⟩
    have := (hwl.2 q e).1; omega) (by simp; omega)
  have hb4 : W.heap[w.heap.size]? = some (.cells #[.int .i64 0, .int .i64 0, .int .i64 0] 34 (0, 0)) := by rw [← hW]; exact blk_alloc (blk_new _ _) _
  have hlast : lastN ((most : Int)).toNat (lastN most (ns T) ++ [(c.toNat : Int)]) = lastN most (ns (T ++ [c])) := by
    rw [Int.toNat_natCast, lastN_again, ns_append]; rfl
  rw [hlast] at hput
  have hput' := Lib.hid hput
  replace hW := Lib.hid hW
  have Hs := Lib.hid (And.intro h1 (And.intro h2 (And.intro h3 (And.intro h4 (And.intro h5 (And.intro h6 (And.intro h7 (And.intro h8 h9))))))))
  replace hC1 := Lib.hid hC1
  replace hb4 := Lib.hid hb4
  replace hszW := Lib.hid hszW
  replace hgb := Lib.hid hgb
  clear h1 h2 h3 h4 h5 h6 h7 h8 hput hlast hSl hsz1 hwl
  go_enter Try.func16, Try.ntmps16
  go_wp2_with fail
  rw [hW.out]
  refine (hput'.out).mono ?_
  rintro e w3 ⟨rfl, r', h', hWin, hr', hC3⟩
  obtain ⟨h1, h2, h3, h4, h5, h6, h7, h8, h9⟩ := Hs.out
  have hgS : g ∉ (gw :: r.toList) := by
    have n1 : g ≠ gw := fun e => by
      obtain ⟨A0, c0, x0, q, _⟩ := h3
      rw [← e, h1] at q; simp at q
    have n2 : r ≠ some g := fun e => by
      obtain ⟨A0, c0, x0, q, ho, hr, _⟩ := h3
      exact own_not' ho h1 (by decide) (hr.trans e)
    simp; exact ⟨n1, n2⟩
  have nV : ∀ (t : TypeId) (z n : Nat) (v : Value) (xs : List Value), w.ownsRow 0 t z v n xs → t ≠ 5 → 74 ≠ t → ∀ k, v.ownBlock = some k → k ∉ (gw :: r.toList) := fun t z n v xs hv ht ht2 k hk hmem => by
    obtain ⟨A0, c0, x0, q, ho, hr, _⟩ := h3
    simp at hmem
    rcases hmem with e | e
    · subst e; exact own_not' hv q ht2 hk
    · exact own_types hv ho ht k hk (hr.trans e)
  have hCw3 : Chg (gw :: r.toList) w w3 := (hC1.out.mono (by simp)).trans hC3
  have g1 := hC3.heap (hC1.out.heap h1 (by simp)) hgS
  have g2 := own_chg h2 hCw3 (nV _ _ _ _ _ h2 (by decide) (by decide))
  have g4 := own_chg h4 hCw3 (nV _ _ _ _ _ h4 (by decide) (by decide))
  have g5 := h5.chg hCw3 (fun k hk p hp => by
    rcases Nat.lt_or_ge k p.1 with h10 | h10
    · exact .inl h10
    · rcases Nat.lt_or_ge k p.2 with h11 | h11
      · have := h8 p hp k h10 h11
        simp at hk
        rcases hk with e | e
        · exact absurd e this.2.1
        · exact absurd e this.2.2.1
      · exact .inr h11)
  have hb43 := hC3.heap hb4.out (fun hmem => by
    simp at hmem
    rcases hmem with e | e
    · have := h3.lt.1; omega
    · have := (h3.lt.2 _ e).1; omega)
  have hsz3 : w.heap.size + 2 ≤ w3.heap.size := by have := hC3.size; have := hszW.out; omega
  have k2 : w3.cell? ⟨g, 2, none⟩ = some (.slice Al l.length cl) := by simp [World.cell?, g1]
  have k3 : w3.cell? ⟨g, 3, none⟩ = some (.pointer (some ⟨gw, 0, none⟩)) := by simp [World.cell?, g1]
  have k4 : w3.cell? ⟨g, 4, none⟩ = some (.bool gb) := by simp [World.cell?, g1, hgb.out]
  have hWin' : Win w3 gw r' most (T ++ [c]).length h' (lastN most (ns (T ++ [c]))) := by
    have e : ((T ++ [c]).length : Int) = (T.length : Int) + ([(c.toNat : Int)].length : Int) := by simp
    rw [e]; exact hWin
  have hfoot : ∀ k, Held g gw r' (.slice Ab l.length cb) (.slice Al l.length cl) I k → F k ∨ w.heap.size ≤ k := fun k hk => by
    rcases hk with e | e | e | e
    · exact .inl (h6 k (.inl e))
    · exact .inl (h6 k (.inr (.inl e)))
    · rcases hr' k e with e2 | e2
      · exact .inl (h6 k (.inr (.inr (.inl e2))))
      · right; have := hszW.out; omega
    · exact .inl (h6 k (.inr (.inr (.inr e))))
  have hnb : ∀ k, Held g gw r' (.slice Ab l.length cb) (.slice Al l.length cl) I k → k ≠ w.heap.size ∧ k ≠ w.heap.size + 1 ∧ k < w3.heap.size := fun k hk => by
    rcases hk with e | e | e | e
    · have := h7 k (h6 k (.inl e)); omega
    · have := h7 k (h6 k (.inr (.inl e))); omega
    · have h10 := (hWin'.lt.2 k e).1
      rcases hr' k e with e2 | e2
      · have := h7 k (h6 k (.inr (.inr (.inl e2)))); omega
      · have := hszW.out; omega
    · have := h7 k (h6 k (.inr (.inr (.inr e)))); omega
  have hI : ∀ p ∈ I, ∀ k, p.1 ≤ k → k < p.2 → F k ∧ k ≠ g ∧ k ≠ gw ∧ r' ≠ some k ∧ (Value.slice Ab l.length cb).ownBlock ≠ some k ∧ (Value.slice Al l.length cl).ownBlock ≠ some k := fun p hp k a b => by
    have h10 := h8 p hp k a b
    have h11 := h6 k (.inr (.inr (.inr (.inr (.inr ⟨p, hp, a, b⟩)))))
    refine ⟨h11, h10.1, h10.2.1, fun e => ?_, h10.2.2.2⟩
    rcases hr' k e with e2 | e2
    · exact h10.2.2.1 e2
    · have := h7 k h11; have := hszW.out; omega
  have hS1 : ∀ k ∈ gw :: r.toList, F k := fun k hk => by
    simp at hk
    rcases hk with e | e
    · exact h6 k (.inr (.inl e))
    · exact h6 k (.inr (.inr (.inl e)))
  replace g1 := Lib.hid g1
  replace g2 := Lib.hid g2
  replace g4 := Lib.hid g4
  replace g5 := Lib.hid g5
  replace hWin' := Lib.hid hWin'
  replace hfoot := Lib.hid hfoot
  replace hnb := Lib.hid hnb
  replace hI := Lib.hid hI
  replace hS1 := Lib.hid hS1
  replace hCw3 := Lib.hid hCw3
  replace hb43 := Lib.hid hb43
  replace h7 := Lib.hid h7
  replace hgl := Lib.hid hgl
  clear h1 h2 h3 h4 h5 h6 h8 hWin hr' hC3 hgS nV hput' hC1 hb4 hszW Hs hW
  cases gb
  · have hC4 : Chg [] w3 w3 := Chg.refl _ _

    have q1 := hC4.heap g1.out (by simp)
    have k2 : w3.cell? ⟨g, 2, none⟩ = some (.slice Al l.length cl) := by simp [World.cell?, q1]
    have k3 : w3.cell? ⟨g, 3, none⟩ = some (.pointer (some ⟨gw, 0, none⟩)) := by simp [World.cell?, q1]
    replace hC4 := Lib.hid hC4
    have hCL := (Chg.refl [] w3).alloc (.cells #[.int .i64 0, .int .i64 0, .int .i64 0] 34)
    have hbL := Lib.hid (blk_new w3 (.cells #[.int .i64 0, .int .i64 0, .int .i64 0] 34))
    have hszL : (w3.alloc (.cells #[.int .i64 0, .int .i64 0, .int .i64 0] 34)).heap.size = w3.heap.size + 1 := Array.size_push ..
    have hs4 := hC4.out.size
    have htot := Lib.hid (fun W hc => total_any gw W (hWin'.out.chg (S := []) (w' := W) hc (by simp) (by simp)))
    have k2' := hCL.cell k2 (by simp)
    have k3' := hCL.cell k3 (by simp)
    clear q1
    go_wp2_with fail
    refine (htot.out _ (hC4.out.trans hCL)).mono ?_
    rintro e w5 ⟨rfl, rfl⟩
    have hC5 := Lib.hid (hC4.out.trans hCL)
    have hb45 := Lib.hid (hC5.out.heap hb43.out (by simp))
    have z1 := Lib.hid (hC5.out.heap g1.out (by simp))
    have z2 := Lib.hid (own_chg g2.out hC5.out (by simp))
    have z3 := Lib.hid (hWin'.out.chg hC5.out (by simp) (by simp))
    have z4 := Lib.hid (own_chg g4.out hC5.out (by simp))
    have z5 := Lib.hid (g5.out.chg hC5.out (by simp))
    have z6 := Lib.hid (hCw3.out.trans (hC5.out.mono (by simp)))
    obtain ⟨bh, hbh⟩ : ∃ bh, bh = w3.heap.size := ⟨_, rfl⟩
    rw [← hbh] at hbL hszL
    have hbhw : w.heap.size + 2 ≤ bh := by omega
    obtain ⟨wL, hwL⟩ : ∃ wL, w3.alloc (.cells #[.int .i64 0, .int .i64 0, .int .i64 0] 34) = wL := ⟨_, rfl⟩
    rw [hwL] at hbL hszL z1 z2 z3 z4 z5 z6 hb45 k2' k3' ⊢
    have hbh' : Hid (∀ k, Held g gw r' (.slice Ab l.length cb) (.slice Al l.length cl) I k → k ≠ bh) := Lib.hid (fun k hk => by have := (hnb.out k hk).2.2; omega)
    simp only [List.length_append, List.length_cons, List.length_nil, Nat.zero_add, Int.natCast_add, Int.natCast_one]
    clear hC5 htot hCL g1 g2 g4 g5 hWin' hCw3 hb43 k2 k3 k4 hwL
    rw [← hbh]
    have hbe := Lib.hid hbh
    clear hbh
    go_wp2_with fail
    obtain ⟨n, hn⟩ : ∃ n, l.length = n := ⟨_, rfl⟩
    have hn64 : n ≤ 64 := by omega
    go_loopw [8, 43] (fun v8 v43 wr => ∃ (k : Nat) (b : Bool), v43 = .int .i64 k ∧ v8 = .bool b ∧ k ≤ l.length ∧ Hid (LooksAt wr most l us I (fun j => if j < k then T ++ [c] else T)) ∧ Hid (∃ S, Chg S wL wr ∧ ∀ q ∈ S, q = bh ∨ ∃ p ∈ I, p.1 ≤ q ∧ q < p.2) ∧ Hid (FdGo wr bh l most (T ++ [c]) k b)) (fun _ v43 _ => l.length - (intOf v43).toNat)
    case atStart => exact ⟨0, false, rfl, rfl, by omega, by simpa using z5, Lib.hid ⟨[], Chg.refl _ _, by simp⟩, Lib.hid (.inl ⟨rfl, fun j x hj => by omega, hbL.out⟩)⟩
    case round =>
      obtain ⟨k, b, rfl, rfl, hk, hLk, hCk, hGo⟩ := hrel
      by_cases hlt : k < l.length
      · obtain ⟨x, hx⟩ : ∃ x, l[k]? = some x := ⟨_, List.getElem?_eq_getElem hlt⟩
        obtain ⟨u, hu⟩ : ∃ u, us[k]? = some u := ⟨_, List.getElem?_eq_getElem (by rw [hLk.out.1]; exact hlt)⟩
        obtain ⟨p, hp⟩ : ∃ p, I[k]? = some p := ⟨_, List.getElem?_eq_getElem (by rw [hLk.out.2.1]; exact hlt)⟩
        obtain ⟨hp2, hLA⟩ := hLk.out.2.2.2 k x u p hx hu hp
        have hpm := List.mem_of_getElem? hp
        simp only [Nat.lt_irrefl, if_false] at hLA
        obtain ⟨S2, hC2, hS2⟩ := hCk.out
        have hOk : wr.ownsRow 0 68 1 (.slice Al l.length cl) l.length us := own_chg z4.out hC2 (fun q hq hm => by
          rcases hS2 q hm with e | ⟨p', hp', a, d⟩
          · exact hbh'.out q (.inr (.inr (.inr (.inr (.inl hq))))) e
          · exact (hI.out p' hp' q a d).2.2.2.2.2 hq)
        obtain ⟨ad, rfl, hcell⟩ := sl_at (own_sl hOk) hu
        replace hC2 := Lib.hid hC2
        replace hS2 := Lib.hid hS2
        replace hx := Lib.hid hx
        replace hu := Lib.hid hu
        replace hp := Lib.hid hp
        clear hOk hCk hn
        rcases hLA with ⟨a1, a2, bp, bq, gk, ak, rfl, a3, a4, a5, a6, a7, a8, a9, a10, a11, a12⟩ | ⟨a1, bp, bm, ths, rfl, a3, a4, a5, a6, a7, a8, a9, a10⟩ | ⟨a1, rfl⟩
        · have hex := Lib.hid (exact1_any wr p.1 p.2 most x T c none 0 0 bp bq gk ak a1 a2 a3 a4 a5 a6 ⟨a7, a8⟩ ⟨a9, a10⟩ a11 a12 hT (by omega))
          clear a1 a2 a3 a4 a5 a6 a7 a8 a9 a10 a11 a12
          go_wp2_with fail
          refine (hex.out).mono ?_
          rintro e w6 ⟨fi, ok, rfl, hLA', ⟨S3, hC6, hS3⟩, hcase⟩
          have hnbh : bh ∉ S3 := fun hm => by
            have h10 := hS3 bh hm
            have := h7.out bh (hI.out p hpm bh h10.1 h10.2).1
            omega
          have hL6 := Lib.hid (hLk.out.step (Tf' := fun j => if j < k + 1 then T ++ [c] else T) hx.out hu.out hp.out hC6 hS3 (by simpa using hLA') (fun j hj => by by_cases h10 : j < k <;> simp [h10] <;> omega))
          have hG6 := hGo.out.chg hC6 hnbh
          have hC26 : Hid (∃ S, Chg S wL w6 ∧ ∀ q ∈ S, q = bh ∨ ∃ p ∈ I, p.1 ≤ q ∧ q < p.2) := Lib.hid ⟨S2 ++ S3, (hC2.out.mono (fun x hx => .inl (List.mem_append_left _ hx))).trans (hC6.mono (fun x hx => .inl (List.mem_append_right _ hx))), fun q hq => by
            rcases List.mem_append.1 hq with hq | hq
            · exact hS2.out q hq
            · exact .inr ⟨p, hpm, hS3 q hq⟩⟩
          clear hLk hGo hC2 hS2 hC6 hS3 hLA' hnbh
          rcases hcase with ⟨rfl, f, rfl, hf⟩ | ⟨rfl, hf⟩
          · cases b
            · have hw6 : w6.heap[bh]? = some (.cells #[.int .i64 0, .int .i64 0, .int .i64 0] 34 (0, 0)) := by
                rcases hG6 with ⟨-, -, h⟩ | ⟨h, -⟩
                · exact h
                · cases h
              have hup : Upto most l (T ++ [c]) k := by
                rcases hG6 with ⟨-, h, -⟩ | ⟨h, -⟩
                · exact h
                · cases h
              have hhit := Lib.hid (hit_some hup hx.out hf)
              have v0 : w6.cell? ⟨bh, 0, none⟩ = some (.int .i64 0) := by simp [World.cell?, hw6]
              have v1 : w6.cell? ⟨bh, 1, none⟩ = some (.int .i64 0) := by simp [World.cell?, hw6]
              have v2 : w6.cell? ⟨bh, 2, none⟩ = some (.int .i64 0) := by simp [World.cell?, hw6]
              have y0 : w6.frozen? ⟨bh, 0, none⟩ = false := by simp [World.frozen?, hw6]
              have y1 : w6.frozen? ⟨bh, 1, none⟩ = false := by simp [World.frozen?, hw6]
              have y2 : w6.frozen? ⟨bh, 2, none⟩ = false := by simp [World.frozen?, hw6]
              replace hw6 := Lib.hid hw6
              replace hf := Lib.hid hf
              clear hG6 hup
              go_wp2_with fail
              go_roundw
              case measure => simp [intOf]; omega
              case rel =>
                have h20 := blk_set (blk_set (blk_set hw6.out 0 (.int .i64 (k : Int))) 1 (.int .i64 (f : Int))) 2 (.int .i64 ((T.length : Int) + 1))
                have h21 : Chg [bh] w6 (((w6.setCell ⟨bh, 0, none⟩ (.int .i64 (k : Int))).setCell ⟨bh, 1, none⟩ (.int .i64 (f : Int))).setCell ⟨bh, 2, none⟩ (.int .i64 ((T.length : Int) + 1))) := (((Chg.refl [bh] w6).setCell (.inl (by simp)) _).setCell (.inl (by simp)) _).setCell (.inl (by simp)) _
                refine ⟨k + 1, true, by go_num, rfl, by omega, Lib.hid (hL6.out.chg h21 (fun q hq p' hp' => ?_)), ?_, Lib.hid (.inr ⟨rfl, k, f, hhit.out, ?_⟩)⟩
                · simp at hq; subst hq
                  rcases Nat.lt_or_ge q p'.1 with h10 | h10
                  · exact .inl h10
                  · rcases Nat.lt_or_ge q p'.2 with h11 | h11
                    · have := h7.out q (hI.out p' hp' q h10 h11).1; omega
                    · exact .inr h11
                · obtain ⟨S5, h22, h23⟩ := hC26.out
                  exact Lib.hid ⟨S5 ++ [bh], (h22.mono (fun x hx => .inl (List.mem_append_left _ hx))).trans (h21.mono (fun x hx => .inl (List.mem_append_right _ hx))), fun q hq => by
                    rcases List.mem_append.1 hq with hq | hq
                    · exact h23 q hq
                    · simp at hq; exact .inl hq⟩
                · simpa using h20
            · have hG7 := Lib.hid (hG6.none hx.out (.inr rfl))
              clear hG6
              go_wp2_with fail
              go_roundw
              case measure => simp [intOf]; omega
              case rel => exact ⟨k + 1, true, by go_num, rfl, by omega, hL6, hC26, hG7⟩
          · have hG7 := Lib.hid (hG6.none hx.out (.inl hf))
            clear hG6 hf
            go_wp2_with fail
            go_roundw
            case measure => simp [intOf]; omega
            case rel => exact ⟨k + 1, b, by go_num, rfl, by omega, hL6, hC26, hG7⟩
        · exfalso
          have h10 := hgb.out
          rw [List.any_eq_false] at h10
          have := h10 x (List.mem_of_getElem? hx.out)
          simp [a1] at this
        · have hex := Lib.hid (never_any wr p.1 p.2 most x T c ((T.length : Int) + 1) none 0 0 a1)
          clear a1
          go_wp2_with fail
          refine (hex.out).mono ?_
          rintro e w6 ⟨fi, ok, rfl, hLA', ⟨S3, hC6, hS3⟩, hcase⟩
          have hnbh : bh ∉ S3 := fun hm => by
            have h10 := hS3 bh hm
            have := h7.out bh (hI.out p hpm bh h10.1 h10.2).1
            omega
          have hL6 := Lib.hid (hLk.out.step (Tf' := fun j => if j < k + 1 then T ++ [c] else T) hx.out hu.out hp.out hC6 hS3 (by simpa using hLA') (fun j hj => by by_cases h10 : j < k <;> simp [h10] <;> omega))
          have hG6 := hGo.out.chg hC6 hnbh
          have hC26 : Hid (∃ S, Chg S wL w6 ∧ ∀ q ∈ S, q = bh ∨ ∃ p ∈ I, p.1 ≤ q ∧ q < p.2) := Lib.hid ⟨S2 ++ S3, (hC2.out.mono (fun x hx => .inl (List.mem_append_left _ hx))).trans (hC6.mono (fun x hx => .inl (List.mem_append_right _ hx))), fun q hq => by
            rcases List.mem_append.1 hq with hq | hq
            · exact hS2.out q hq
            · exact .inr ⟨p, hpm, hS3 q hq⟩⟩
          clear hLk hGo hC2 hS2 hC6 hS3 hLA' hnbh
          rcases hcase with ⟨rfl, f, rfl, hf⟩ | ⟨rfl, hf⟩
          · cases b
            · have hw6 : w6.heap[bh]? = some (.cells #[.int .i64 0, .int .i64 0, .int .i64 0] 34 (0, 0)) := by
                rcases hG6 with ⟨-, -, h⟩ | ⟨h, -⟩
                · exact h
                · cases h
              have hup : Upto most l (T ++ [c]) k := by
                rcases hG6 with ⟨-, h, -⟩ | ⟨h, -⟩
                · exact h
                · cases h
              have hhit := Lib.hid (hit_some hup hx.out hf)
              have v0 : w6.cell? ⟨bh, 0, none⟩ = some (.int .i64 0) := by simp [World.cell?, hw6]
              have v1 : w6.cell? ⟨bh, 1, none⟩ = some (.int .i64 0) := by simp [World.cell?, hw6]
              have v2 : w6.cell? ⟨bh, 2, none⟩ = some (.int .i64 0) := by simp [World.cell?, hw6]
              have y0 : w6.frozen? ⟨bh, 0, none⟩ = false := by simp [World.frozen?, hw6]
              have y1 : w6.frozen? ⟨bh, 1, none⟩ = false := by simp [World.frozen?, hw6]
              have y2 : w6.frozen? ⟨bh, 2, none⟩ = false := by simp [World.frozen?, hw6]
              replace hw6 := Lib.hid hw6
              replace hf := Lib.hid hf
              clear hG6 hup
              go_wp2_with fail
              go_roundw
              case measure => simp [intOf]; omega
              case rel =>
                have h20 := blk_set (blk_set (blk_set hw6.out 0 (.int .i64 (k : Int))) 1 (.int .i64 (f : Int))) 2 (.int .i64 ((T.length : Int) + 1))
                have h21 : Chg [bh] w6 (((w6.setCell ⟨bh, 0, none⟩ (.int .i64 (k : Int))).setCell ⟨bh, 1, none⟩ (.int .i64 (f : Int))).setCell ⟨bh, 2, none⟩ (.int .i64 ((T.length : Int) + 1))) := (((Chg.refl [bh] w6).setCell (.inl (by simp)) _).setCell (.inl (by simp)) _).setCell (.inl (by simp)) _
                refine ⟨k + 1, true, by go_num, rfl, by omega, Lib.hid (hL6.out.chg h21 (fun q hq p' hp' => ?_)), ?_, Lib.hid (.inr ⟨rfl, k, f, hhit.out, ?_⟩)⟩
                · simp at hq; subst hq
                  rcases Nat.lt_or_ge q p'.1 with h10 | h10
                  · exact .inl h10
                  · rcases Nat.lt_or_ge q p'.2 with h11 | h11
                    · have := h7.out q (hI.out p' hp' q h10 h11).1; omega
                    · exact .inr h11
                · obtain ⟨S5, h22, h23⟩ := hC26.out
                  exact Lib.hid ⟨S5 ++ [bh], (h22.mono (fun x hx => .inl (List.mem_append_left _ hx))).trans (h21.mono (fun x hx => .inl (List.mem_append_right _ hx))), fun q hq => by
                    rcases List.mem_append.1 hq with hq | hq
                    · exact h23 q hq
                    · simp at hq; exact .inl hq⟩
                · simpa using h20
            · have hG7 := Lib.hid (hG6.none hx.out (.inr rfl))
              clear hG6
              go_wp2_with fail
              go_roundw
              case measure => simp [intOf]; omega
              case rel => exact ⟨k + 1, true, by go_num, rfl, by omega, hL6, hC26, hG7⟩
          · have hG7 := Lib.hid (hG6.none hx.out (.inl hf))
            clear hG6 hf
            go_wp2_with fail
            go_roundw
            case measure => simp [intOf]; omega
            case rel => exact ⟨k + 1, b, by go_num, rfl, by omega, hL6, hC26, hG7⟩
      · obtain rfl : k = l.length := by omega
        obtain ⟨S2, hC2, hS2⟩ := hCk.out
        have hLd := Lib.hid (show LooksAt wr most l us I (fun _ => T ++ [c]) from by
          obtain ⟨x1, x2, x3, x4⟩ := hLk.out
          refine ⟨x1, x2, x3, fun i x u p a1 a2 a3 => ?_⟩
          have := x4 i x u p a1 a2 a3
          simp only [if_pos (List.getElem?_eq_some_iff.1 a1).1] at this
          exact this)
        have hb4r := hC2.heap hb45.out (fun hm => by
          rcases hS2 _ hm with e | ⟨p', hp', a, d⟩
          · omega
          · have := h7.out _ (hI.out p' hp' _ a d).1; omega)
        have hdone := Lib.hid (fun w' hw => fd_done (w' := w') (b := b) (b4 := w.heap.size) z1.out z2.out z3.out z4.out hLd.out z6.out hS1.out hC2 hS2 hw (Nat.le_refl _) (by omega) hfoot.out h7.out hI.out (fun k hk => ⟨hbh'.out k hk, (hnb.out k hk).1⟩) (by omega))
        have f0 : wr.frozen? ⟨w.heap.size, 0, none⟩ = false := by simp [World.frozen?, hb4r]
        have f1 : wr.frozen? ⟨w.heap.size, 1, none⟩ = false := by simp [World.frozen?, hb4r]
        have f2 : wr.frozen? ⟨w.heap.size, 2, none⟩ = false := by simp [World.frozen?, hb4r]
        have d0 : wr.cell? ⟨w.heap.size, 0, none⟩ = some (.int .i64 0) := by simp [World.cell?, hb4r]
        have d1 : wr.cell? ⟨w.heap.size, 1, none⟩ = some (.int .i64 0) := by simp [World.cell?, hb4r]
        have d2 : wr.cell? ⟨w.heap.size, 2, none⟩ = some (.int .i64 0) := by simp [World.cell?, hb4r]
        replace hb4r := Lib.hid hb4r
        clear hCk hLk hC2 hS2 hLd
        rcases hGo.out with ⟨rfl, hup, hbr⟩ | ⟨rfl, i, f, hhit, hbr⟩
        · have hhit := Lib.hid (hit_none hup)
          have v0 : wr.cell? ⟨bh, 0, none⟩ = some (.int .i64 0) := by simp [World.cell?, hbr]
          have v1 : wr.cell? ⟨bh, 1, none⟩ = some (.int .i64 0) := by simp [World.cell?, hbr]
          have v2 : wr.cell? ⟨bh, 2, none⟩ = some (.int .i64 0) := by simp [World.cell?, hbr]
          clear hbr hup hGo
          go_wp2_with fail
          have hfin := blk_set (blk_set (blk_set hb4r.out 0 (.int .i64 0)) 1 (.int .i64 0)) 2 (.int .i64 0)
          have hCf : Chg [w.heap.size] wr (((wr.setCell ⟨w.heap.size, 0, none⟩ (.int .i64 0)).setCell ⟨w.heap.size, 1, none⟩ (.int .i64 0)).setCell ⟨w.heap.size, 2, none⟩ (.int .i64 0)) := (((Chg.refl [w.heap.size] wr).setCell (.inl (by simp)) _).setCell (.inl (by simp)) _).setCell (.inl (by simp)) _
          replace hfin : (((wr.setCell ⟨w.heap.size, 0, none⟩ (.int .i64 0)).setCell ⟨w.heap.size, 1, none⟩ (.int .i64 0)).setCell ⟨w.heap.size, 2, none⟩ (.int .i64 0)).heap[w.heap.size]? = some (.cells #[.int .i64 0, .int .i64 0, .int .i64 0] 34 (0, 0)) := by simpa using hfin
          generalize (((wr.setCell ⟨w.heap.size, 0, none⟩ (.int .i64 0)).setCell ⟨w.heap.size, 1, none⟩ (.int .i64 0)).setCell ⟨w.heap.size, 2, none⟩ (.int .i64 0)) = w' at hfin hCf ⊢
          refine bodyPost_ret (v := .tuple #[.agg #[.int .i64 0, .int .i64 0, .int .i64 0], .bool false]) ?_ rfl ⟨?_, hdone.out w' hCf⟩
          · exact results_cell2 rfl _ _ _ 34 _ (0, 0) _ _ rfl hfin Try.underlying34 rfl (by kernel_rfl) rfl
          · rw [hhit.out]; rfl
        · have v0 : wr.cell? ⟨bh, 0, none⟩ = some (.int .i64 i) := by simp [World.cell?, hbr]
          have v1 : wr.cell? ⟨bh, 1, none⟩ = some (.int .i64 f) := by simp [World.cell?, hbr]
          have v2 : wr.cell? ⟨bh, 2, none⟩ = some (.int .i64 (T ++ [c]).length) := by simp [World.cell?, hbr]
          replace hhit := Lib.hid hhit
          clear hbr hGo
          go_wp2_with fail
          have hfin := blk_set (blk_set (blk_set hb4r.out 0 (.int .i64 (i : Int))) 1 (.int .i64 (f : Int))) 2 (.int .i64 ((T.length : Int) + 1))
          have hCf : Chg [w.heap.size] wr (((wr.setCell ⟨w.heap.size, 0, none⟩ (.int .i64 (i : Int))).setCell ⟨w.heap.size, 1, none⟩ (.int .i64 (f : Int))).setCell ⟨w.heap.size, 2, none⟩ (.int .i64 ((T.length : Int) + 1))) := (((Chg.refl [w.heap.size] wr).setCell (.inl (by simp)) _).setCell (.inl (by simp)) _).setCell (.inl (by simp)) _
          replace hfin : (((wr.setCell ⟨w.heap.size, 0, none⟩ (.int .i64 (i : Int))).setCell ⟨w.heap.size, 1, none⟩ (.int .i64 (f : Int))).setCell ⟨w.heap.size, 2, none⟩ (.int .i64 ((T.length : Int) + 1))).heap[w.heap.size]? = some (.cells #[.int .i64 (i : Int), .int .i64 (f : Int), .int .i64 ((T.length : Int) + 1)] 34 (0, 0)) := by simpa using hfin
          generalize (((wr.setCell ⟨w.heap.size, 0, none⟩ (.int .i64 (i : Int))).setCell ⟨w.heap.size, 1, none⟩ (.int .i64 (f : Int))).setCell ⟨w.heap.size, 2, none⟩ (.int .i64 ((T.length : Int) + 1))) = w' at hfin hCf ⊢
          refine bodyPost_ret (v := .tuple #[.agg #[.int .i64 (i : Int), .int .i64 (f : Int), .int .i64 ((T.length : Int) + 1)], .bool true]) ?_ rfl ⟨?_, hdone.out w' hCf⟩
          · exact results_cell2 rfl _ _ _ 34 _ (0, 0) _ _ rfl hfin Try.underlying34 rfl (by kernel_rfl) rfl
          · rw [hhit.out]; simp [hitV]
  · go_wp2_with fail
    refine (bytes_any gw _ hWin'.out).mono ?_
    rintro e w4 ⟨A6, c6, rfl, hO6, hC4⟩
    have hn6 : (lastN most (ns (T ++ [c]))).length = (lastB most (T ++ [c])).length := by rw [lastN_ns, ns_length]
    have hS6 := own_sl hO6
    have hA6 : Hid (∀ q, (Value.slice A6 (lastN most (ns (T ++ [c]))).length c6).ownBlock = some q → w3.heap.size ≤ q ∧ q < w4.heap.size) := Lib.hid (fun q hq => hO6.lt q hq)
    rw [lastN_ns] at hS6
    rw [hn6] at hO6 hA6 ⊢
    rw [ns_length] at hS6
    obtain ⟨N6, hN6⟩ : ∃ N, (lastB most (T ++ [c])).length = N := ⟨_, rfl⟩
    rw [hN6] at hS6 hA6 ⊢
    replace hN6 := Lib.hid hN6
    clear hO6 hn6

    have q1 := hC4.heap g1.out (by simp)
    have k2 : w4.cell? ⟨g, 2, none⟩ = some (.slice Al l.length cl) := by simp [World.cell?, q1]
    have k3 : w4.cell? ⟨g, 3, none⟩ = some (.pointer (some ⟨gw, 0, none⟩)) := by simp [World.cell?, q1]
    replace hS6 := Lib.hid hS6
    replace hC4 := Lib.hid hC4
    have hCL := (Chg.refl [] w4).alloc (.cells #[.int .i64 0, .int .i64 0, .int .i64 0] 34)
    have hbL := Lib.hid (blk_new w4 (.cells #[.int .i64 0, .int .i64 0, .int .i64 0] 34))
    have hszL : (w4.alloc (.cells #[.int .i64 0, .int .i64 0, .int .i64 0] 34)).heap.size = w4.heap.size + 1 := Array.size_push ..
    have hs4 := hC4.out.size
    have htot := Lib.hid (fun W hc => total_any gw W (hWin'.out.chg (S := []) (w' := W) hc (by simp) (by simp)))
    have k2' := hCL.cell k2 (by simp)
    have k3' := hCL.cell k3 (by simp)
    clear q1
    go_wp2_with fail
    refine (htot.out _ (hC4.out.trans hCL)).mono ?_
    rintro e w5 ⟨rfl, rfl⟩
    have hC5 := Lib.hid (hC4.out.trans hCL)
    have hb45 := Lib.hid (hC5.out.heap hb43.out (by simp))
    have z1 := Lib.hid (hC5.out.heap g1.out (by simp))
    have z2 := Lib.hid (own_chg g2.out hC5.out (by simp))
    have z3 := Lib.hid (hWin'.out.chg hC5.out (by simp) (by simp))
    have z4 := Lib.hid (own_chg g4.out hC5.out (by simp))
    have z5 := Lib.hid (g5.out.chg hC5.out (by simp))
    have z6 := Lib.hid (hCw3.out.trans (hC5.out.mono (by simp)))
    have z7 := Lib.hid (hS6.out.chg hCL (by simp))
    obtain ⟨bh, hbh⟩ : ∃ bh, bh = w4.heap.size := ⟨_, rfl⟩
    rw [← hbh] at hbL hszL
    have hbhw : w.heap.size + 2 ≤ bh := by omega
    obtain ⟨wL, hwL⟩ : ∃ wL, w4.alloc (.cells #[.int .i64 0, .int .i64 0, .int .i64 0] 34) = wL := ⟨_, rfl⟩
    rw [hwL] at hbL hszL z1 z2 z3 z4 z5 z6 hb45 k2' k3' z7 ⊢
    have hbh' : Hid (∀ k, Held g gw r' (.slice Ab l.length cb) (.slice Al l.length cl) I k → k ≠ bh) := Lib.hid (fun k hk => by have := (hnb.out k hk).2.2; omega)
    simp only [List.length_append, List.length_cons, List.length_nil, Nat.zero_add, Int.natCast_add, Int.natCast_one]
    clear hC5 htot hCL g1 g2 g4 g5 hWin' hCw3 hb43 k2 k3 k4 hS6 hwL
    rw [← hbh]
    have hbe := Lib.hid hbh
    clear hbh
    go_wp2_with fail
    obtain ⟨n, hn⟩ : ∃ n, l.length = n := ⟨_, rfl⟩
    have hn64 : n ≤ 64 := by omega
    go_loopw [8, 43] (fun v8 v43 wr => ∃ (k : Nat) (b : Bool), v43 = .int .i64 k ∧ v8 = .bool b ∧ k ≤ l.length ∧ Hid (LooksAt wr most l us I (fun j => if j < k then T ++ [c] else T)) ∧ Hid (∃ S, Chg S wL wr ∧ ∀ q ∈ S, q = bh ∨ ∃ p ∈ I, p.1 ≤ q ∧ q < p.2) ∧ Hid (FdGo wr bh l most (T ++ [c]) k b)) (fun _ v43 _ => l.length - (intOf v43).toNat)
    case atStart => exact ⟨0, false, rfl, rfl, by omega, by simpa using z5, Lib.hid ⟨[], Chg.refl _ _, by simp⟩, Lib.hid (.inl ⟨rfl, fun j x hj => by omega, hbL.out⟩)⟩
    case round =>
      obtain ⟨k, b, rfl, rfl, hk, hLk, hCk, hGo⟩ := hrel
      by_cases hlt : k < l.length
      · obtain ⟨x, hx⟩ : ∃ x, l[k]? = some x := ⟨_, List.getElem?_eq_getElem hlt⟩
        obtain ⟨u, hu⟩ : ∃ u, us[k]? = some u := ⟨_, List.getElem?_eq_getElem (by rw [hLk.out.1]; exact hlt)⟩
        obtain ⟨p, hp⟩ : ∃ p, I[k]? = some p := ⟨_, List.getElem?_eq_getElem (by rw [hLk.out.2.1]; exact hlt)⟩
        obtain ⟨hp2, hLA⟩ := hLk.out.2.2.2 k x u p hx hu hp
        have hpm := List.mem_of_getElem? hp
        simp only [Nat.lt_irrefl, if_false] at hLA
        obtain ⟨S2, hC2, hS2⟩ := hCk.out
        have hOk : wr.ownsRow 0 68 1 (.slice Al l.length cl) l.length us := own_chg z4.out hC2 (fun q hq hm => by
          rcases hS2 q hm with e | ⟨p', hp', a, d⟩
          · exact hbh'.out q (.inr (.inr (.inr (.inr (.inl hq))))) e
          · exact (hI.out p' hp' q a d).2.2.2.2.2 hq)
        obtain ⟨ad, rfl, hcell⟩ := sl_at (own_sl hOk) hu
        replace hC2 := Lib.hid hC2
        replace hS2 := Lib.hid hS2
        replace hx := Lib.hid hx
        replace hu := Lib.hid hu
        replace hp := Lib.hid hp
        clear hOk hCk hn
        rcases hLA with ⟨a1, a2, bp, bq, gk, ak, rfl, a3, a4, a5, a6, a7, a8, a9, a10, a11, a12⟩ | ⟨a1, bp, bm, ths, rfl, a3, a4, a5, a6, a7, a8, a9, a10⟩ | ⟨a1, rfl⟩
        · have hex := Lib.hid (exact1_any wr p.1 p.2 most x T c A6 N6 c6 bp bq gk ak a1 a2 a3 a4 a5 a6 ⟨a7, a8⟩ ⟨a9, a10⟩ a11 a12 hT (by omega))
          clear a1 a2 a3 a4 a5 a6 a7 a8 a9 a10 a11 a12
          go_wp2_with fail
          refine (hex.out).mono ?_
          rintro e w6 ⟨fi, ok, rfl, hLA', ⟨S3, hC6, hS3⟩, hcase⟩
          have hnbh : bh ∉ S3 := fun hm => by
            have h10 := hS3 bh hm
            have := h7.out bh (hI.out p hpm bh h10.1 h10.2).1
            omega
          have hL6 := Lib.hid (hLk.out.step (Tf' := fun j => if j < k + 1 then T ++ [c] else T) hx.out hu.out hp.out hC6 hS3 (by simpa using hLA') (fun j hj => by by_cases h10 : j < k <;> simp [h10] <;> omega))
          have hG6 := hGo.out.chg hC6 hnbh
          have hC26 : Hid (∃ S, Chg S wL w6 ∧ ∀ q ∈ S, q = bh ∨ ∃ p ∈ I, p.1 ≤ q ∧ q < p.2) := Lib.hid ⟨S2 ++ S3, (hC2.out.mono (fun x hx => .inl (List.mem_append_left _ hx))).trans (hC6.mono (fun x hx => .inl (List.mem_append_right _ hx))), fun q hq => by
            rcases List.mem_append.1 hq with hq | hq
            · exact hS2.out q hq
            · exact .inr ⟨p, hpm, hS3 q hq⟩⟩
          clear hLk hGo hC2 hS2 hC6 hS3 hLA' hnbh
          rcases hcase with ⟨rfl, f, rfl, hf⟩ | ⟨rfl, hf⟩
          · cases b
            · have hw6 : w6.heap[bh]? = some (.cells #[.int .i64 0, .int .i64 0, .int .i64 0] 34 (0, 0)) := by
                rcases hG6 with ⟨-, -, h⟩ | ⟨h, -⟩
                · exact h
                · cases h
              have hup : Upto most l (T ++ [c]) k := by
                rcases hG6 with ⟨-, h, -⟩ | ⟨h, -⟩
                · exact h
                · cases h
              have hhit := Lib.hid (hit_some hup hx.out hf)
              have v0 : w6.cell? ⟨bh, 0, none⟩ = some (.int .i64 0) := by simp [World.cell?, hw6]
              have v1 : w6.cell? ⟨bh, 1, none⟩ = some (.int .i64 0) := by simp [World.cell?, hw6]
              have v2 : w6.cell? ⟨bh, 2, none⟩ = some (.int .i64 0) := by simp [World.cell?, hw6]
              have y0 : w6.frozen? ⟨bh, 0, none⟩ = false := by simp [World.frozen?, hw6]
              have y1 : w6.frozen? ⟨bh, 1, none⟩ = false := by simp [World.frozen?, hw6]
              have y2 : w6.frozen? ⟨bh, 2, none⟩ = false := by simp [World.frozen?, hw6]
              replace hw6 := Lib.hid hw6
              replace hf := Lib.hid hf
              clear hG6 hup
              go_wp2_with fail
              go_roundw
              case measure => simp [intOf]; omega
              case rel =>
                have h20 := blk_set (blk_set (blk_set hw6.out 0 (.int .i64 (k : Int))) 1 (.int .i64 (f : Int))) 2 (.int .i64 ((T.length : Int) + 1))
                have h21 : Chg [bh] w6 (((w6.setCell ⟨bh, 0, none⟩ (.int .i64 (k : Int))).setCell ⟨bh, 1, none⟩ (.int .i64 (f : Int))).setCell ⟨bh, 2, none⟩ (.int .i64 ((T.length : Int) + 1))) := (((Chg.refl [bh] w6).setCell (.inl (by simp)) _).setCell (.inl (by simp)) _).setCell (.inl (by simp)) _
                refine ⟨k + 1, true, by go_num, rfl, by omega, Lib.hid (hL6.out.chg h21 (fun q hq p' hp' => ?_)), ?_, Lib.hid (.inr ⟨rfl, k, f, hhit.out, ?_⟩)⟩
                · simp at hq; subst hq
                  rcases Nat.lt_or_ge q p'.1 with h10 | h10
                  · exact .inl h10
                  · rcases Nat.lt_or_ge q p'.2 with h11 | h11
                    · have := h7.out q (hI.out p' hp' q h10 h11).1; omega
                    · exact .inr h11
                · obtain ⟨S5, h22, h23⟩ := hC26.out
                  exact Lib.hid ⟨S5 ++ [bh], (h22.mono (fun x hx => .inl (List.mem_append_left _ hx))).trans (h21.mono (fun x hx => .inl (List.mem_append_right _ hx))), fun q hq => by
                    rcases List.mem_append.1 hq with hq | hq
                    · exact h23 q hq
                    · simp at hq; exact .inl hq⟩
                · simpa using h20
            · have hG7 := Lib.hid (hG6.none hx.out (.inr rfl))
              clear hG6
              go_wp2_with fail
              go_roundw
              case measure => simp [intOf]; omega
              case rel => exact ⟨k + 1, true, by go_num, rfl, by omega, hL6, hC26, hG7⟩
          · have hG7 := Lib.hid (hG6.none hx.out (.inl hf))
            clear hG6 hf
            go_wp2_with fail
            go_roundw
            case measure => simp [intOf]; omega
            case rel => exact ⟨k + 1, b, by go_num, rfl, by omega, hL6, hC26, hG7⟩
        · have hS6k : Sl wr 1 (.slice A6 N6 c6) N6 (cellsOf .u8 (ns (lastB most (T ++ [c])))) := z7.out.chg hC2.out (fun _ q hq hm => by
            have h10 := hA6.out q hq
            rcases hS2.out q hm with e | ⟨p', hp', a, d⟩
            · have := hbe.out; omega
            · have := h7.out _ (hI.out p' hp' _ a d).1; omega)
          have hex := Lib.hid (like1_any wr p.1 p.2 most x T c A6 c6 bp bm ths a1 a3 a4 a5 a6 ⟨a7, a8⟩ ⟨a9, a10⟩ hT (by omega) N6 hN6.out.symm hS6k)
          clear a1 a3 a4 a5 a6 a7 a8 a9 a10 hS6k
          go_wp2_with fail
          refine (hex.out).mono ?_
          rintro e w6 ⟨fi, ok, rfl, hLA', ⟨S3, hC6, hS3⟩, hcase⟩
          have hnbh : bh ∉ S3 := fun hm => by
            have h10 := hS3 bh hm
            have := h7.out bh (hI.out p hpm bh h10.1 h10.2).1
            omega
          have hL6 := Lib.hid (hLk.out.step (Tf' := fun j => if j < k + 1 then T ++ [c] else T) hx.out hu.out hp.out hC6 hS3 (by simpa using hLA') (fun j hj => by by_cases h10 : j < k <;> simp [h10] <;> omega))
          have hG6 := hGo.out.chg hC6 hnbh
          have hC26 : Hid (∃ S, Chg S wL w6 ∧ ∀ q ∈ S, q = bh ∨ ∃ p ∈ I, p.1 ≤ q ∧ q < p.2) := Lib.hid ⟨S2 ++ S3, (hC2.out.mono (fun x hx => .inl (List.mem_append_left _ hx))).trans (hC6.mono (fun x hx => .inl (List.mem_append_right _ hx))), fun q hq => by
            rcases List.mem_append.1 hq with hq | hq
            · exact hS2.out q hq
            · exact .inr ⟨p, hpm, hS3 q hq⟩⟩
          clear hLk hGo hC2 hS2 hC6 hS3 hLA' hnbh
          rcases hcase with ⟨rfl, f, rfl, hf⟩ | ⟨rfl, hf⟩
          · cases b
            · have hw6 : w6.heap[bh]? = some (.cells #[.int .i64 0, .int .i64 0, .int .i64 0] 34 (0, 0)) := by
                rcases hG6 with ⟨-, -, h⟩ | ⟨h, -⟩
                · exact h
                · cases h
              have hup : Upto most l (T ++ [c]) k := by
                rcases hG6 with ⟨-, h, -⟩ | ⟨h, -⟩
                · exact h
                · cases h
              have hhit := Lib.hid (hit_some hup hx.out hf)
              have v0 : w6.cell? ⟨bh, 0, none⟩ = some (.int .i64 0) := by simp [World.cell?, hw6]
              have v1 : w6.cell? ⟨bh, 1, none⟩ = some (.int .i64 0) := by simp [World.cell?, hw6]
              have v2 : w6.cell? ⟨bh, 2, none⟩ = some (.int .i64 0) := by simp [World.cell?, hw6]
              have y0 : w6.frozen? ⟨bh, 0, none⟩ = false := by simp [World.frozen?, hw6]
              have y1 : w6.frozen? ⟨bh, 1, none⟩ = false := by simp [World.frozen?, hw6]
              have y2 : w6.frozen? ⟨bh, 2, none⟩ = false := by simp [World.frozen?, hw6]
              replace hw6 := Lib.hid hw6
              replace hf := Lib.hid hf
              clear hG6 hup
              go_wp2_with fail
              go_roundw
              case measure => simp [intOf]; omega
              case rel =>
                have h20 := blk_set (blk_set (blk_set hw6.out 0 (.int .i64 (k : Int))) 1 (.int .i64 (f : Int))) 2 (.int .i64 ((T.length : Int) + 1))
                have h21 : Chg [bh] w6 (((w6.setCell ⟨bh, 0, none⟩ (.int .i64 (k : Int))).setCell ⟨bh, 1, none⟩ (.int .i64 (f : Int))).setCell ⟨bh, 2, none⟩ (.int .i64 ((T.length : Int) + 1))) := (((Chg.refl [bh] w6).setCell (.inl (by simp)) _).setCell (.inl (by simp)) _).setCell (.inl (by simp)) _
                refine ⟨k + 1, true, by go_num, rfl, by omega, Lib.hid (hL6.out.chg h21 (fun q hq p' hp' => ?_)), ?_, Lib.hid (.inr ⟨rfl, k, f, hhit.out, ?_⟩)⟩
                · simp at hq; subst hq
                  rcases Nat.lt_or_ge q p'.1 with h10 | h10
                  · exact .inl h10
                  · rcases Nat.lt_or_ge q p'.2 with h11 | h11
                    · have := h7.out q (hI.out p' hp' q h10 h11).1; omega
                    · exact .inr h11
                · obtain ⟨S5, h22, h23⟩ := hC26.out
                  exact Lib.hid ⟨S5 ++ [bh], (h22.mono (fun x hx => .inl (List.mem_append_left _ hx))).trans (h21.mono (fun x hx => .inl (List.mem_append_right _ hx))), fun q hq => by
                    rcases List.mem_append.1 hq with hq | hq
                    · exact h23 q hq
                    · simp at hq; exact .inl hq⟩
                · simpa using h20
            · have hG7 := Lib.hid (hG6.none hx.out (.inr rfl))
              clear hG6
              go_wp2_with fail
              go_roundw
              case measure => simp [intOf]; omega
              case rel => exact ⟨k + 1, true, by go_num, rfl, by omega, hL6, hC26, hG7⟩
          · have hG7 := Lib.hid (hG6.none hx.out (.inl hf))
            clear hG6 hf
            go_wp2_with fail
            go_roundw
            case measure => simp [intOf]; omega
            case rel => exact ⟨k + 1, b, by go_num, rfl, by omega, hL6, hC26, hG7⟩
        · have hex := Lib.hid (never_any wr p.1 p.2 most x T c ((T.length : Int) + 1) A6 N6 c6 a1)
          clear a1
          go_wp2_with fail
          refine (hex.out).mono ?_
          rintro e w6 ⟨fi, ok, rfl, hLA', ⟨S3, hC6, hS3⟩, hcase⟩
          have hnbh : bh ∉ S3 := fun hm => by
            have h10 := hS3 bh hm
            have := h7.out bh (hI.out p hpm bh h10.1 h10.2).1
            omega
          have hL6 := Lib.hid (hLk.out.step (Tf' := fun j => if j < k + 1 then T ++ [c] else T) hx.out hu.out hp.out hC6 hS3 (by simpa using hLA') (fun j hj => by by_cases h10 : j < k <;> simp [h10] <;> omega))
          have hG6 := hGo.out.chg hC6 hnbh
          have hC26 : Hid (∃ S, Chg S wL w6 ∧ ∀ q ∈ S, q = bh ∨ ∃ p ∈ I, p.1 ≤ q ∧ q < p.2) := Lib.hid ⟨S2 ++ S3, (hC2.out.mono (fun x hx => .inl (List.mem_append_left _ hx))).trans (hC6.mono (fun x hx => .inl (List.mem_append_right _ hx))), fun q hq => by
            rcases List.mem_append.1 hq with hq | hq
            · exact hS2.out q hq
            · exact .inr ⟨p, hpm, hS3 q hq⟩⟩
          clear hLk hGo hC2 hS2 hC6 hS3 hLA' hnbh
          rcases hcase with ⟨rfl, f, rfl, hf⟩ | ⟨rfl, hf⟩
          · cases b
            · have hw6 : w6.heap[bh]? = some (.cells #[.int .i64 0, .int .i64 0, .int .i64 0] 34 (0, 0)) := by
                rcases hG6 with ⟨-, -, h⟩ | ⟨h, -⟩
                · exact h
                · cases h
              have hup : Upto most l (T ++ [c]) k := by
                rcases hG6 with ⟨-, h, -⟩ | ⟨h, -⟩
                · exact h
                · cases h
              have hhit := Lib.hid (hit_some hup hx.out hf)
              have v0 : w6.cell? ⟨bh, 0, none⟩ = some (.int .i64 0) := by simp [World.cell?, hw6]
              have v1 : w6.cell? ⟨bh, 1, none⟩ = some (.int .i64 0) := by simp [World.cell?, hw6]
              have v2 : w6.cell? ⟨bh, 2, none⟩ = some (.int .i64 0) := by simp [World.cell?, hw6]
              have y0 : w6.frozen? ⟨bh, 0, none⟩ = false := by simp [World.frozen?, hw6]
              have y1 : w6.frozen? ⟨bh, 1, none⟩ = false := by simp [World.frozen?, hw6]
              have y2 : w6.frozen? ⟨bh, 2, none⟩ = false := by simp [World.frozen?, hw6]
              replace hw6 := Lib.hid hw6
              replace hf := Lib.hid hf
              clear hG6 hup
              go_wp2_with fail
              go_roundw
              case measure => simp [intOf]; omega
              case rel =>
                have h20 := blk_set (blk_set (blk_set hw6.out 0 (.int .i64 (k : Int))) 1 (.int .i64 (f : Int))) 2 (.int .i64 ((T.length : Int) + 1))
                have h21 : Chg [bh] w6 (((w6.setCell ⟨bh, 0, none⟩ (.int .i64 (k : Int))).setCell ⟨bh, 1, none⟩ (.int .i64 (f : Int))).setCell ⟨bh, 2, none⟩ (.int .i64 ((T.length : Int) + 1))) := (((Chg.refl [bh] w6).setCell (.inl (by simp)) _).setCell (.inl (by simp)) _).setCell (.inl (by simp)) _
                refine ⟨k + 1, true, by go_num, rfl, by omega, Lib.hid (hL6.out.chg h21 (fun q hq p' hp' => ?_)), ?_, Lib.hid (.inr ⟨rfl, k, f, hhit.out, ?_⟩)⟩
                · simp at hq; subst hq
                  rcases Nat.lt_or_ge q p'.1 with h10 | h10
                  · exact .inl h10
                  · rcases Nat.lt_or_ge q p'.2 with h11 | h11
                    · have := h7.out q (hI.out p' hp' q h10 h11).1; omega
                    · exact .inr h11
                · obtain ⟨S5, h22, h23⟩ := hC26.out
                  exact Lib.hid ⟨S5 ++ [bh], (h22.mono (fun x hx => .inl (List.mem_append_left _ hx))).trans (h21.mono (fun x hx => .inl (List.mem_append_right _ hx))), fun q hq => by
                    rcases List.mem_append.1 hq with hq | hq
                    · exact h23 q hq
                    · simp at hq; exact .inl hq⟩
                · simpa using h20
            · have hG7 := Lib.hid (hG6.none hx.out (.inr rfl))
              clear hG6
              go_wp2_with fail
              go_roundw
              case measure => simp [intOf]; omega
              case rel => exact ⟨k + 1, true, by go_num, rfl, by omega, hL6, hC26, hG7⟩
          · have hG7 := Lib.hid (hG6.none hx.out (.inl hf))
            clear hG6 hf
            go_wp2_with fail
            go_roundw
            case measure => simp [intOf]; omega
            case rel => exact ⟨k + 1, b, by go_num, rfl, by omega, hL6, hC26, hG7⟩
      · obtain rfl : k = l.length := by omega
        obtain ⟨S2, hC2, hS2⟩ := hCk.out
        have hLd := Lib.hid (show LooksAt wr most l us I (fun _ => T ++ [c]) from by
          obtain ⟨x1, x2, x3, x4⟩ := hLk.out
          refine ⟨x1, x2, x3, fun i x u p a1 a2 a3 => ?_⟩
          have := x4 i x u p a1 a2 a3
          simp only [if_pos (List.getElem?_eq_some_iff.1 a1).1] at this
          exact this)
        have hb4r := hC2.heap hb45.out (fun hm => by
          rcases hS2 _ hm with e | ⟨p', hp', a, d⟩
          · omega
          · have := h7.out _ (hI.out p' hp' _ a d).1; omega)
        have hdone := Lib.hid (fun w' hw => fd_done (w' := w') (b := b) (b4 := w.heap.size) z1.out z2.out z3.out z4.out hLd.out z6.out hS1.out hC2 hS2 hw (Nat.le_refl _) (by omega) hfoot.out h7.out hI.out (fun k hk => ⟨hbh'.out k hk, (hnb.out k hk).1⟩) (by omega))
        have f0 : wr.frozen? ⟨w.heap.size, 0, none⟩ = false := by simp [World.frozen?, hb4r]
        have f1 : wr.frozen? ⟨w.heap.size, 1, none⟩ = false := by simp [World.frozen?, hb4r]
        have f2 : wr.frozen? ⟨w.heap.size, 2, none⟩ = false := by simp [World.frozen?, hb4r]
        have d0 : wr.cell? ⟨w.heap.size, 0, none⟩ = some (.int .i64 0) := by simp [World.cell?, hb4r]
        have d1 : wr.cell? ⟨w.heap.size, 1, none⟩ = some (.int .i64 0) := by simp [World.cell?, hb4r]
        have d2 : wr.cell? ⟨w.heap.size, 2, none⟩ = some (.int .i64 0) := by simp [World.cell?, hb4r]
        replace hb4r := Lib.hid hb4r
        clear hCk hLk hC2 hS2 hLd
        rcases hGo.out with ⟨rfl, hup, hbr⟩ | ⟨rfl, i, f, hhit, hbr⟩
        · have hhit := Lib.hid (hit_none hup)
          have v0 : wr.cell? ⟨bh, 0, none⟩ = some (.int .i64 0) := by simp [World.cell?, hbr]
          have v1 : wr.cell? ⟨bh, 1, none⟩ = some (.int .i64 0) := by simp [World.cell?, hbr]
          have v2 : wr.cell? ⟨bh, 2, none⟩ = some (.int .i64 0) := by simp [World.cell?, hbr]
          clear hbr hup hGo
          go_wp2_with fail
          have hfin := blk_set (blk_set (blk_set hb4r.out 0 (.int .i64 0)) 1 (.int .i64 0)) 2 (.int .i64 0)
          have hCf : Chg [w.heap.size] wr (((wr.setCell ⟨w.heap.size, 0, none⟩ (.int .i64 0)).setCell ⟨w.heap.size, 1, none⟩ (.int .i64 0)).setCell ⟨w.heap.size, 2, none⟩ (.int .i64 0)) := (((Chg.refl [w.heap.size] wr).setCell (.inl (by simp)) _).setCell (.inl (by simp)) _).setCell (.inl (by simp)) _
          replace hfin : (((wr.setCell ⟨w.heap.size, 0, none⟩ (.int .i64 0)).setCell ⟨w.heap.size, 1, none⟩ (.int .i64 0)).setCell ⟨w.heap.size, 2, none⟩ (.int .i64 0)).heap[w.heap.size]? = some (.cells #[.int .i64 0, .int .i64 0, .int .i64 0] 34 (0, 0)) := by simpa using hfin
          generalize (((wr.setCell ⟨w.heap.size, 0, none⟩ (.int .i64 0)).setCell ⟨w.heap.size, 1, none⟩ (.int .i64 0)).setCell ⟨w.heap.size, 2, none⟩ (.int .i64 0)) = w' at hfin hCf ⊢
          refine bodyPost_ret (v := .tuple #[.agg #[.int .i64 0, .int .i64 0, .int .i64 0], .bool false]) ?_ rfl ⟨?_, hdone.out w' hCf⟩
          · exact results_cell2 rfl _ _ _ 34 _ (0, 0) _ _ rfl hfin Try.underlying34 rfl (by kernel_rfl) rfl
          · rw [hhit.out]; rfl
        · have v0 : wr.cell? ⟨bh, 0, none⟩ = some (.int .i64 i) := by simp [World.cell?, hbr]
          have v1 : wr.cell? ⟨bh, 1, none⟩ = some (.int .i64 f) := by simp [World.cell?, hbr]
          have v2 : wr.cell? ⟨bh, 2, none⟩ = some (.int .i64 (T ++ [c]).length) := by simp [World.cell?, hbr]
          replace hhit := Lib.hid hhit
          clear hbr hGo
          go_wp2_with fail
          have hfin := blk_set (blk_set (blk_set hb4r.out 0 (.int .i64 (i : Int))) 1 (.int .i64 (f : Int))) 2 (.int .i64 ((T.length : Int) + 1))
          have hCf : Chg [w.heap.size] wr (((wr.setCell ⟨w.heap.size, 0, none⟩ (.int .i64 (i : Int))).setCell ⟨w.heap.size, 1, none⟩ (.int .i64 (f : Int))).setCell ⟨w.heap.size, 2, none⟩ (.int .i64 ((T.length : Int) + 1))) := (((Chg.refl [w.heap.size] wr).setCell (.inl (by simp)) _).setCell (.inl (by simp)) _).setCell (.inl (by simp)) _
          replace hfin : (((wr.setCell ⟨w.heap.size, 0, none⟩ (.int .i64 (i : Int))).setCell ⟨w.heap.size, 1, none⟩ (.int .i64 (f : Int))).setCell ⟨w.heap.size, 2, none⟩ (.int .i64 ((T.length : Int) + 1))).heap[w.heap.size]? = some (.cells #[.int .i64 (i : Int), .int .i64 (f : Int), .int .i64 ((T.length : Int) + 1)] 34 (0, 0)) := by simpa using hfin
          generalize (((wr.setCell ⟨w.heap.size, 0, none⟩ (.int .i64 (i : Int))).setCell ⟨w.heap.size, 1, none⟩ (.int .i64 (f : Int))).setCell ⟨w.heap.size, 2, none⟩ (.int .i64 ((T.length : Int) + 1))) = w' at hfin hCf ⊢
          refine bodyPost_ret (v := .tuple #[.agg #[.int .i64 (i : Int), .int .i64 (f : Int), .int .i64 ((T.length : Int) + 1)], .bool true]) ?_ rfl ⟨?_, hdone.out w' hCf⟩
          · exact results_cell2 rfl _ _ _ 34 _ (0, 0) _ _ rfl hfin Try.underlying34 rfl (by kernel_rfl) rfl
          · rw [hhit.out]; simp [hitV]
end Mt
end Go.Proofs.Ytojgdmpnbgikeaa
