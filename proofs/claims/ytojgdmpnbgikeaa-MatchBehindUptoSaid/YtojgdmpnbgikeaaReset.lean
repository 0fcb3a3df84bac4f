/- The contract of Matcher.Reset. Conditions: as it states. -/
import Derived.Test.YtojgdmpnbgikeaaMs
import Derived.Test.YtojgdmpnbgikeaaWide
import Derived.Deep.LoopGhost
set_option linter.unusedVariables false
set_option linter.unusedSimpArgs false
namespace Go.Proofs.Ytojgdmpnbgikeaa
open Go.RowKit PMatchFeeds YtojgdmpnbgikeaaW.PrintWords
namespace Mt
open Kmp Glob
theorem Try.info_look : (Try.prog.info? 68).map (fun i => (i.zero, i.size, i.bytes)) = some (some .nilFunc, 1, 8) := by kernel_rfl
/-- Branches with which nothing is wrong. -/
def GoodBr (l : List Br) : Prop := l.length ≤ 64 ∧ ∀ x ∈ l, 0 ≤ x.kind ∧ x.kind ≤ 3 ∧ (x.kind = 1 → x.pat.length ≤ 1024 ∧ ∃ ths, parse x.pat = some ths)
/-- A matcher ahead of Reset. -/
def MPre (w : World) (F : Nat → Prop) (g : Nat) (l : List Br) (most : Nat) : Prop :=
  ∃ (Ab : Option Addr) (cb : Nat) (Al : Option Addr) (n cl gw : Nat) (r : Option Nat) (t : Int) (h : Nat) (bw : List Int) (us : List Value),
    w.heap[g]? = some (.cells #[.slice Ab l.length cb, .int .i64 most, .slice Al n cl, .pointer (some ⟨gw, 0, none⟩), .bool (l.any fun x => x.kind == 1)] 56 (0, 0)) ∧
    w.ownsRow 0 45 2 (.slice Ab l.length cb) l.length (brCells l) ∧ Win w gw r most t h bw ∧ w.ownsRow 0 68 1 (.slice Al n cl) n us ∧
    (∀ k, (k = g ∨ k = gw ∨ r = some k ∨ (Value.slice Ab l.length cb).ownBlock = some k ∨ (Value.slice Al n cl).ownBlock = some k) → F k) ∧ (∀ k, F k → k < w.heap.size) ∧ GoodBr l
theorem MS.pre {w : World} {F : Nat → Prop} {g : Nat} {l : List Br} {most : Nat} {T : List UInt8} (H : MS w F g l most T) (hl : GoodBr l) : MPre w F g l most := by
  obtain ⟨Ab, cb, Al, cl, gw, r, h, us, I, h1, h2, h3, h4, h5, h6, h7, h8, h9⟩ := H
  refine ⟨Ab, cb, Al, _, cl, gw, r, _, h, _, us, h1, h2, h3, h4, fun k hk => ?_, h7, hl⟩
  rcases hk with e | e | e | e | e
  · exact h6 k (.inl e)
  · exact h6 k (.inr (.inl e))
  · exact h6 k (.inr (.inr (.inl e)))
  · exact h6 k (.inr (.inr (.inr (.inl e))))
  · exact h6 k (.inr (.inr (.inr (.inr (.inl e)))))
/-- How far Reset is: k branches look. -/
def RsGo (w1 wr : World) (g gw most : Nat) (l : List Br) (Ab : Option Addr) (cb : Nat) (gb : Bool) (b0 : Option Nat) (k : Nat) (Al : Option Addr) (cl : Nat) : Prop :=
  ∃ us I, wr.heap[g]? = some (.cells #[.slice Ab l.length cb, .int .i64 most, .slice Al k cl, .pointer (some ⟨gw, 0, none⟩), .bool gb] 56 (0, 0)) ∧ wr.ownsRow 0 68 1 (.slice Al k cl) k us ∧ LooksAt wr most (l.take k) us I (fun _ => []) ∧
    Chg (g :: b0.toList) w1 wr ∧ ((Value.slice Al k cl).ownBlock = b0 ∨ ∀ q, (Value.slice Al k cl).ownBlock = some q → w1.heap.size ≤ q) ∧ ∀ p ∈ I, w1.heap.size ≤ p.1 ∧ ∀ q, p.1 ≤ q → q < p.2 → (Value.slice Al k cl).ownBlock ≠ some q
/-- One branch more looks. -/
theorem rs_step {w1 wr w4 w5 : World} {g gw most lo hi : Nat} {l : List Br} {Ab : Option Addr} {cb : Nat} {gb : Bool} {b0 : Option Nat} {k : Nat} {Al A' : Option Addr} {cl c' : Nat} {us : List Value} {I : List (Nat × Nat)} {x : Br} {u : Value}
    (hgo : wr.heap[g]? = some (.cells #[.slice Ab l.length cb, .int .i64 most, .slice Al k cl, .pointer (some ⟨gw, 0, none⟩), .bool gb] 56 (0, 0)) ∧ wr.ownsRow 0 68 1 (.slice Al k cl) k us ∧ LooksAt wr most (l.take k) us I (fun _ => []) ∧
      Chg (g :: b0.toList) w1 wr ∧ ((Value.slice Al k cl).ownBlock = b0 ∨ ∀ q, (Value.slice Al k cl).ownBlock = some q → w1.heap.size ≤ q) ∧ ∀ p ∈ I, w1.heap.size ≤ p.1 ∧ ∀ q, p.1 ≤ q → q < p.2 → (Value.slice Al k cl).ownBlock ≠ some q)
    (hx : l[k]? = some x) (hC : Chg [] wr w4) (hL : LookAt w4 lo hi most x u []) (hlo : wr.heap.size ≤ lo) (hhi : hi ≤ w4.heap.size) (hlh : lo ≤ hi) (hg1 : g < w1.heap.size) (hb1 : ∀ q, b0 = some q → q < w1.heap.size) (hgb0 : b0 ≠ some g)
    (hO : w5.ownsRow 0 68 1 (.slice A' (k + 1) c') (k + 1) (us ++ [u])) (hC5 : Chg (Value.slice Al k cl).ownBlock.toList w4 w5) (hat : (Value.slice A' (k + 1) c').ownBlock = (Value.slice Al k cl).ownBlock ∨ ∀ q, (Value.slice A' (k + 1) c').ownBlock = some q → w4.heap.size ≤ q) :
    w5.cell? ⟨g, 2, none⟩ = some (.slice Al k cl) ∧ w5.frozen? ⟨g, 2, none⟩ = false ∧ RsGo w1 (w5.setCell ⟨g, 2, none⟩ (.slice A' (k + 1) c')) g gw most l Ab cb gb b0 (k + 1) A' c' := by
  obtain ⟨h1, h2, h3, h4, h5, h6⟩ := hgo
  have hkl := (List.getElem?_eq_some_iff.1 hx).1
  have n1 := own_not' h2 h1 (by decide)
  have G5 := hC5.heap (hC.heap h1 (by simp)) (fun hm => n1 (by simpa using hm))
  have n5 := own_not' hO G5 (by decide)
  have hs := h4.size
  have hs4 := hC.size
  have hltA := fun q (hq : (Value.slice Al k cl).ownBlock = some q) => (h2.lt q hq).2
  have hCs : Chg [g] w5 (w5.setCell ⟨g, 2, none⟩ (.slice A' (k + 1) c')) := (Chg.refl [g] w5).setCell (.inl (by simp)) _
  have hC45 : Chg (g :: (Value.slice Al k cl).ownBlock.toList) w4 (w5.setCell ⟨g, 2, none⟩ (.slice A' (k + 1) c')) := (hC5.mono (fun x hx => .inl (List.mem_cons_of_mem _ hx))).trans (hCs.mono (fun x hx => .inl (by simp at hx; subst hx; simp)))
  have hlen : (l.take k).length = k := by rw [List.length_take]; omega
  obtain ⟨a1, a2, a3, a4⟩ := h3
  rw [hlen] at a1 a2
  have hmemI : ∀ p ∈ I, ∀ q ∈ g :: (Value.slice Al k cl).ownBlock.toList, q < p.1 ∨ p.2 ≤ q := fun p hp q hq => by
    have h10 := h6 p hp
    rcases List.mem_cons.1 hq with rfl | hq
    · left; omega
    · rcases Nat.lt_or_ge q p.1 with h11 | h11
      · exact .inl h11
      · rcases Nat.lt_or_ge q p.2 with h12 | h12
        · exact absurd (by simpa using hq) (h10.2 q h11 h12)
        · exact .inr h12
  refine ⟨by simp [World.cell?, G5], by simp [World.frozen?, G5], us ++ [u], I ++ [(lo, hi)], blk_set G5 2 _, own_set hO g 2 _ n5, ⟨?_, ?_, ?_, ?_⟩, ?_, ?_, ?_⟩
  · rw [List.length_append, a1, List.length_take]; simp; omega
  · rw [List.length_append, a2, List.length_take]; simp; omega
  · intro i j p q hij hp hq
    rcases Nat.lt_or_ge j k with hj | hj
    · rw [List.getElem?_append_left (by omega)] at hp hq
      exact a3 i j p q hij hp hq
    · have hjl := (List.getElem?_eq_some_iff.1 hq).1
      simp only [List.length_append, List.length_cons, List.length_nil] at hjl
      obtain rfl : j = k := by omega
      rw [List.getElem?_append_left (by omega)] at hp
      rw [List.getElem?_append_right (by omega), a2, Nat.sub_self] at hq
      simp at hq; subst hq
      have hil : i < us.length := by omega
      have := (a4 i _ _ p (List.getElem?_eq_getElem (by rw [hlen]; omega)) (List.getElem?_eq_getElem hil) hp).1
      simp; omega
  · intro i y v p hy hv hp
    have hsz : (w5.setCell ⟨g, 2, none⟩ (.slice A' (k + 1) c')).heap.size = w5.heap.size := World.size_setCell ..
    have hs5 := hC5.size
    rcases Nat.lt_or_ge i k with hi | hi
    · rw [List.getElem?_append_left (by omega)] at hp hv
      rw [List.getElem?_take, if_pos (by omega)] at hy
      obtain ⟨b1, b2⟩ := a4 i y v p (by rw [List.getElem?_take, if_pos hi]; exact hy) hv hp
      refine ⟨by omega, (b2.chg hC (by simp)).chg hC45 (hmemI p (List.mem_of_getElem? hp))⟩
    · have hil := (List.getElem?_eq_some_iff.1 hp).1
      simp only [List.length_append, List.length_cons, List.length_nil] at hil
      obtain rfl : i = k := by omega
      rw [List.getElem?_append_right (by omega), a2, Nat.sub_self] at hp
      rw [List.getElem?_append_right (by omega), a1, Nat.sub_self] at hv
      rw [List.getElem?_take, if_pos (by omega), hx] at hy
      simp at hp hv hy; subst hp hv hy
      refine ⟨by simp; omega, hL.chg hC45 (fun q hq => ?_)⟩
      left
      show q < lo
      rcases List.mem_cons.1 hq with rfl | hq
      · omega
      · have := hltA q (by simpa using hq)
        omega
  · refine (h4.trans (hC.mono (by simp))).then hC45 (fun q hq => ?_)
    rcases List.mem_cons.1 hq with rfl | hq
    · exact .inl (by simp)
    · rcases h5 with e | e
      · left; rw [e] at hq; exact List.mem_cons_of_mem _ hq
      · right; exact e q (by simpa using hq)
  · rcases hat with e | e
    · rw [e]; exact h5
    · right; intro q hq; have := e q hq; omega
  · intro p hp
    rcases List.mem_append.1 hp with hp | hp
    · have h10 := h6 p hp
      refine ⟨h10.1, fun q a b e => ?_⟩
      rcases hat with e2 | e2
      · rw [e2] at e; exact h10.2 q a b e
      · have := e2 q e
        obtain ⟨j, hj, rfl⟩ := List.getElem_of_mem hp
        have hjp := List.getElem?_eq_getElem hj
        have := (a4 j _ _ _ (List.getElem?_eq_getElem (by rw [hlen]; omega)) (List.getElem?_eq_getElem (by omega)) hjp).1
        omega
    · simp at hp; subst hp
      refine ⟨by simp; omega, fun q a b e => ?_⟩
      simp only at a b
      rcases hat with e2 | e2
      · rw [e2] at e; have := hltA q e; omega
      · have := e2 q e; omega
theorem LookAt.form {w : World} {lo hi most : Nat} {x : Br} {u : Value} {T : List UInt8} (h : LookAt w lo hi most x u T) : ∃ f cs, u = .func f #[] cs := by
  rcases h with ⟨h1, h2, bp, bq, g, a, rfl, _⟩ | ⟨h1, bp, bm, ths, rfl, _⟩ | ⟨_, rfl⟩ <;> exact ⟨_, _, rfl⟩
theorem LookAt.one {w : World} {lo hi most : Nat} {x : Br} {u : Value} {T : List UInt8} (h : LookAt w lo hi most x u T) : u.oneCell' = true := by
  rcases h with ⟨h1, h2, bp, bq, g, a, rfl, _⟩ | ⟨h1, bp, bm, ths, rfl, _⟩ | ⟨_, rfl⟩ <;> rfl
def RsEnd (w : World) (F : Nat → Prop) (g : Nat) (l : List Br) (most : Nat) (e : Ending) (w' : World) : Prop :=
  e = .returned (.tuple #[]) ∧ ∃ F' : Nat → Prop, MS w' F' g l most [] ∧ (∀ k, F' k → F k ∨ w.heap.size ≤ k) ∧ ∃ S, Chg S w w' ∧ ∀ k ∈ S, F k
set_option maxRecDepth 100000 in
set_option maxHeartbeats 16000000 in
theorem reset_any (w : World) (F : Nat → Prop) (g : Nat) (l : List Br) (most : Nat) (H : MPre w F g l most) :
    Calls Try.prog 17 #[.pointer (some ⟨g, 0, none⟩)] w (RsEnd w F g l most) := by
  obtain ⟨Ab, cb, Al, n, cl, gw, r, t, h, bw, us, h1, h2, h3, h4, h5, h6, h7⟩ := H
  have hgl := lt_heap h1
  have hb := h3.bounds
  have hm1 : most ≤ 1048576 := by omega
  have k3 : w.cell? ⟨g, 3, none⟩ = some (.pointer (some ⟨gw, 0, none⟩)) := by simp [World.cell?, h1]
  have hcut := Lib.hid (cut_any gw w h3)
  have hggw : g ≠ gw := fun e => by
    obtain ⟨A0, c0, x0, q, _⟩ := h3
    rw [← e, h1] at q; simp at q
  have Hs := Lib.hid (And.intro h1 (And.intro h2 (And.intro h3 (And.intro h4 (And.intro h5 (And.intro h6 h7))))))
  clear h1 h2 h3 h4 h5 h6 h7 hb
  obtain ⟨gb, hgb⟩ : ∃ gb, (l.any fun x => x.kind == 1) = gb := ⟨_, rfl⟩
  replace hgb := Lib.hid hgb
  go_enter Try.func17, Try.ntmps17
  go_wp2_with fail
  refine (hcut.out).mono ?_
  rintro e w1 ⟨rfl, hW1, hC1⟩
  obtain ⟨h1, h2, h3, h4, h5, h6, h7⟩ := Hs.out
  rw [hgb.out] at h1
  have g1 := hC1.heap h1 (by simpa using hggw)
  have nV : ∀ (t : TypeId) (z n : Nat) (v : Value) (xs : List Value), w.ownsRow 0 t z v n xs → 74 ≠ t → ∀ k, v.ownBlock = some k → k ∉ [gw] := fun t z n v xs hv ht2 k hk hmem => by
    obtain ⟨A0, c0, x0, q, ho, hr, _⟩ := h3
    simp at hmem
    subst hmem; exact own_not' hv q ht2 hk
  have g2 := own_chg h2 hC1 (nV _ _ _ _ _ h2 (by decide))
  have g4 := own_take (own_chg h4 hC1 (nV _ _ _ _ _ h4 (by decide))) 0 (Nat.zero_le _)
  have hbl0 : (Value.slice Al 0 cl).ownBlock = (Value.slice Al n cl).ownBlock := by cases Al <;> rfl
  have hnl : n ≤ cl := by obtain ⟨A0, c0, e0, _, h10, _⟩ := own_sl h4; simp at e0; omega
  have k2 : w1.cell? ⟨g, 2, none⟩ = some (.slice Al n cl) := by simp [World.cell?, g1]
  have f2 : w1.frozen? ⟨g, 2, none⟩ = false := by simp [World.frozen?, g1]
  have ngb : (Value.slice Al 0 cl).ownBlock ≠ some g := own_not' g4 g1 (by decide)
  have G1 := blk_set g1 2 (.slice Al 0 cl)
  have hlt0 := g4.lt
  have hs1 := hC1.size
  have hCs : Chg [g] w1 (w1.setCell ⟨g, 2, none⟩ (.slice Al 0 cl)) := (Chg.refl [g] w1).setCell (.inl (by simp)) _
  have hGo : RsGo w1 (w1.setCell ⟨g, 2, none⟩ (.slice Al 0 cl)) g gw most l Ab cb gb (Value.slice Al 0 cl).ownBlock 0 Al cl := by
    refine ⟨[], [], G1, own_set (by simpa using g4) g 2 _ ngb, ⟨rfl, rfl, by simp, by simp⟩, hCs.mono (by simp), .inl rfl, by simp⟩
  replace hGo := Lib.hid hGo
  replace g1 := Lib.hid g1
  replace g2 := Lib.hid g2
  replace g4 := Lib.hid g4
  replace hW1 := Lib.hid hW1
  replace hC1 := Lib.hid hC1
  replace hbl0 := Lib.hid hbl0
  replace ngb := Lib.hid ngb
  replace hlt0 := Lib.hid hlt0
  replace hggw := Lib.hid hggw
  have hb0 : ∃ b0, b0 = (Value.slice Al 0 cl).ownBlock := ⟨_, rfl⟩
  obtain ⟨b0, hb0⟩ := hb0
  rw [← hb0] at hGo ngb
  replace hb0 := Lib.hid hb0
  have hbr := Lib.hid (fun W (hc : ∃ S, Chg S w1 W ∧ ∀ k ∈ S, k = g ∨ (Value.slice Al 0 cl).ownBlock = some k) => show Sl W 2 (.slice Ab l.length cb) l.length (brCells l) from by
    obtain ⟨S, hc, hS⟩ := hc
    refine (own_sl g2.out).chg hc (fun _ k hk hm => ?_)
    rcases hS k hm with e | e
    · subst e; exact own_not' g2.out g1.out (by decide) hk
    · exact own_types g2.out g4.out (by decide) k hk e)
  clear h1 h2 h3 h4 h5 h6 nV hCs G1
  have hl64 := h7.1
  replace h7 := Lib.hid h7
  have kb : (w1.setCell ⟨g, 2, none⟩ (.slice Al 0 cl)).cell? ⟨g, 0, none⟩ = some (.slice Ab l.length cb) := by
    obtain ⟨us, I, a1, -⟩ := hGo.out
    simp [World.cell?, a1]
  have hGo' := hGo
  clear hGo k3
  go_wp2_with fail
  generalize w1.setCell ⟨g, 2, none⟩ (.slice Al 0 cl) = w2 at hGo' kb ⊢
  clear k2 f2
  go_loopw [24] (fun v24 wr => ∃ (k : Nat) (A2 : Option Addr) (c2 : Nat), v24 = .int .i64 k ∧ k ≤ l.length ∧ Hid (RsGo w1 wr g gw most l Ab cb gb b0 k A2 c2)) (fun v24 _ => l.length - (intOf v24).toNat)
  case atStart => exact ⟨0, Al, cl, rfl, by omega, hGo'⟩
  case round =>
    obtain ⟨k, A2, c2, rfl, hk, hGo⟩ := hrel
    clear hGo' kb
    obtain ⟨us2, I2, hG⟩ := hGo.out
    by_cases hlt : k < l.length
    · obtain ⟨x, hx⟩ : ∃ x, l[k]? = some x := ⟨_, List.getElem?_eq_getElem hlt⟩
      obtain ⟨hk0, hk3, hkg⟩ := h7.out.2 x (List.mem_of_getElem? hx)
      have hS := hbr.out wr ⟨_, hG.2.2.2.1, fun q hq => by
        rcases List.mem_cons.1 hq with e | e
        · exact .inl e
        · right; rw [← hb0.out]; simpa using e⟩
      obtain ⟨b, o, rfl, x0, x1⟩ := br_at hS hx
      have c1c : wr.cell? ⟨g, 1, none⟩ = some (.int .i64 most) := by simp [World.cell?, hG.1]
      have c2c : wr.cell? ⟨g, 2, none⟩ = some (.slice A2 k c2) := by simp [World.cell?, hG.1]
      have f2c : wr.frozen? ⟨g, 2, none⟩ = false := by simp [World.frozen?, hG.1]
      have hg1 := Lib.hid (Nat.lt_of_lt_of_le hgl hs1)
      have hb1 : Hid (∀ q, b0 = some q → q < w1.heap.size) := Lib.hid (fun q hq => (hlt0.out q (by rw [← hb0.out]; exact hq)).2)
      replace hG := Lib.hid hG
      replace hx := Lib.hid hx
      clear hS hGo
      by_cases hz0 : x.kind = 0
      · have hmk := Lib.hid (fun W => exact_any W most x hz0 hm1)
        have hd0 : (x.kind == 0) = true := by simp [hz0]
        rw [hz0] at x0
        clear hk0 hk3 hkg hz0 hd0
        have hCb := Lib.hid ((Chg.refl [] wr).alloc (.cells #[.int .i64 0, .string (bs x.pat)] 45))
        have e1 := hCb.out.cell c1c (by simp)
        have e2 := hCb.out.cell c2c (by simp)
        go_wp2_with fail
        refine wp_region_any (by kernel_rfl) ?_
        (try (change wpAny _ _ _ _ _ _ _ (World.drew _)))
        refine wpAny_take (i := 0) (v := ?_) rfl (by kernel_rfl) (by kernel_rfl) (by kernel_rfl) (fun _ _ _ h => h) (Or.inl ⟨by kernel_rfl, ?_⟩) ?_
        rotate_left
        · (intro w; go_simp; try with_reducible rfl)
        change wpAny _ _ _ _ _ _ (Act.put _ (some 41) _) _
        (try simp only [Act.put, List.setIfInBounds_toArray, List.set_cons_zero, List.set_cons_succ])
        refine wpAny_take (i := 1) (v := ?_) rfl (by kernel_rfl) (by kernel_rfl) (by kernel_rfl) (fun _ _ _ h => h) (Or.inl ⟨by kernel_rfl, ?_⟩) ?_
        rotate_left
        · (intro w; go_simp; try with_reducible rfl)
        change wpAny _ _ _ _ _ _ (Act.put _ (some 42) _) _
        (try simp only [Act.put, List.setIfInBounds_toArray, List.set_cons_zero, List.set_cons_succ])
        refine wpAny_take (i := 2) (v := ?_) rfl (by kernel_rfl) (by kernel_rfl) (by kernel_rfl) (fun _ _ _ h => h) (Or.inl ⟨by kernel_rfl, ?_⟩) ?_
        rotate_left
        · (intro w; go_simp; try with_reducible rfl)
        change wpAny _ _ _ _ _ _ (Act.put _ (some 43) _) _
        (try simp only [Act.put, List.setIfInBounds_toArray, List.set_cons_zero, List.set_cons_succ])
        refine wpAny_take (i := 3) (v := ?_) rfl (by kernel_rfl) (by kernel_rfl) (by kernel_rfl) (fun _ _ _ h => h) (Or.inl ⟨by kernel_rfl, ?_⟩) ?_
        rotate_left
        · (intro w; go_simp; try with_reducible rfl)
        change wpAny _ _ _ _ _ _ (Act.put _ (some 44) _) _
        (try simp only [Act.put, List.setIfInBounds_toArray, List.set_cons_zero, List.set_cons_succ])
        refine wpAny_take (i := 5) (v := ?_) rfl (by kernel_rfl) (by kernel_rfl) (by kernel_rfl) (fun _ _ _ h => h) (Or.inl ⟨by kernel_rfl, ?_⟩) ?_
        rotate_left
        · (intro w; go_simp; try with_reducible rfl)
        change wpAny _ _ _ _ _ _ (Act.put _ (some 46) _) _
        (try simp only [Act.put, List.setIfInBounds_toArray, List.set_cons_zero, List.set_cons_succ])
        refine wpAny_take (i := 7) (v := ?_) rfl (by kernel_rfl) (by kernel_rfl) (by kernel_rfl) (fun _ _ _ h => h) (Or.inl ⟨by kernel_rfl, ?_⟩) ?_
        rotate_left
        · (intro w; go_simp; try with_reducible rfl)
        change wpAny _ _ _ _ _ _ (Act.put _ (some 48) _) _
        (try simp only [Act.put, List.setIfInBounds_toArray, List.set_cons_zero, List.set_cons_succ])
        refine wpAny_take (i := 8) (v := ?_) rfl (by kernel_rfl) (by kernel_rfl) (by kernel_rfl) (fun _ _ _ h => h) (Or.inl ⟨by kernel_rfl, ?_⟩) ?_
        rotate_left
        · (intro w; go_simp; try with_reducible rfl)
        change wpAny _ _ _ _ _ _ (Act.put _ (some 49) _) _
        (try simp only [Act.put, List.setIfInBounds_toArray, List.set_cons_zero, List.set_cons_succ])
        refine wpAny_take (i := 9) (v := ?_) rfl (by kernel_rfl) (by kernel_rfl) (by kernel_rfl) (fun _ _ _ h => h) (Or.inl ⟨by kernel_rfl, ?_⟩) ?_
        rotate_left
        · (intro w; go_simp; try with_reducible rfl)
        change wpAny _ _ _ _ _ _ (Act.put _ (some 50) _) _
        (try simp only [Act.put, List.setIfInBounds_toArray, List.set_cons_zero, List.set_cons_succ])
        refine wpAny_ready (rs := [4, 6, 10]) (by kernel_rfl) (by simp) ?_
        refine AllReady.cons rfl (fun K hK => ?_) ?_
        · go_simp
          (try (refine hK _ _ ?_; clear hK K))
          (try simp only [Act.put, List.setIfInBounds_toArray, List.set_cons_zero, List.set_cons_succ])
          refine wpAny_ready (rs := [6, 10]) (by kernel_rfl) (by simp) ?_
          refine AllReady.cons rfl (fun K hK => ?_) ?_
          · go_simp
            (try (refine hK _ _ ?_; clear hK K))
            (try simp only [Act.put, List.setIfInBounds_toArray, List.set_cons_zero, List.set_cons_succ])
            refine wpAny_ready (rs := [10]) (by kernel_rfl) (by simp) ?_
            refine AllReady.cons rfl (fun K hK => ?_) ?_
            · go_simp
              (try (refine hK _ _ ?_; clear hK K))
              (try simp only [Act.put, List.setIfInBounds_toArray, List.set_cons_zero, List.set_cons_succ])
              refine wpAny_ready (rs := [11]) (by kernel_rfl) (by simp) ?_
              refine AllReady.cons rfl (fun K hK => ?_) ?_
              · go_simp
                go_wp2_with (first
                    | (refine (hmk.out _).mono ?_; rintro e w3 ⟨u, rfl, hLk, hC3⟩; obtain ⟨uf, ucs, rfl⟩ := hLk.form; have hCr := Lib.hid ((hCb.out.drew).trans hC3); have d2 := hCr.out.cell c2c (by simp); have d2a := (fun o : Obj => ((Chg.refl [] w3).alloc o).cell d2 (by simp)); have hu1 := hLk.one; have hsb := Lib.hid (hCb.out.size); have hs3 := Lib.hid hC3.size; replace hLk := Lib.hid hLk; clear hC3))
                (try (refine hK _ _ ?_; clear hK K))
                (try simp only [Act.put, List.setIfInBounds_toArray, List.set_cons_zero, List.set_cons_succ])
                refine wpAny_ready (rs := [12]) (by kernel_rfl) (by simp) ?_
                refine AllReady.cons rfl (fun K hK => ?_) ?_
                · go_simp
                  (try (refine hK _ _ ?_; clear hK K))
                  (try simp only [Act.put, List.setIfInBounds_toArray, List.set_cons_zero, List.set_cons_succ])
                  refine wpAny_ready (rs := [13]) (by kernel_rfl) (by simp) ?_
                  refine AllReady.cons rfl (fun K hK => ?_) ?_
                  · (refine step_append_sl rfl (.tmp 45) (.tmp 53) 54 rfl 0 68 .nilFunc 1 8 Try.underlying54 Try.info_look rfl (by decide) _ k us2 (own_chg hG.out.2.1 (hCr.out.alloc _) (by simp)) rfl _ 1 [.func uf #[] ucs] (sl_wide_new w3 [.func uf #[] ucs] 68 1 rfl) rfl (by intro v hv; simp at hv; subst hv; exact hu1) (k + 1) rfl (by omega) (by decide) (Nat.zero_le _) ?_; intro A' c' w5 hO' hCh hat; obtain ⟨y1, y2, y3⟩ := rs_step hG.out hx.out (hCr.out.alloc _) (hLk.out.chg ((Chg.refl [] w3).alloc _) (by simp)) hsb.out (by simp) hs3.out hg1.out hb1.out ngb.out hO' hCh hat; replace y3 := Lib.hid y3; clear hO' hCh hat; refine hK _ _ ?_; clear hK K)
                    (try simp only [Act.put, List.setIfInBounds_toArray, List.set_cons_zero, List.set_cons_succ])
                    refine wpAny_take (i := 14) (v := ?_) rfl (by kernel_rfl) (by kernel_rfl) (by kernel_rfl) (fun _ _ _ h => h) (Or.inl ⟨by kernel_rfl, ?_⟩) ?_
                    rotate_left
                    · (intro w; go_simp; try with_reducible rfl)
                    change wpAny _ _ _ _ _ _ (Act.put _ (some 55) _) _
                    (try simp only [Act.put, List.setIfInBounds_toArray, List.set_cons_zero, List.set_cons_succ])
                    refine wpAny_take (i := 15) (v := ?_) rfl (by kernel_rfl) (by kernel_rfl) (by kernel_rfl) (fun _ _ _ h => h) (Or.inl ⟨by kernel_rfl, ?_⟩) ?_
                    rotate_left
                    · (intro w; go_simp; try with_reducible rfl)
                    change wpAny _ _ _ _ _ _ (Act.put _ (some 56) _) _
                    (try simp only [Act.put, List.setIfInBounds_toArray, List.set_cons_zero, List.set_cons_succ])
                    refine wpAny_ready (rs := [16]) (by kernel_rfl) (by simp) ?_
                    refine AllReady.cons rfl (fun K hK => ?_) ?_
                    · go_simp
                      (try (refine hK _ _ ?_; clear hK K))
                      (try simp only [Act.put, List.setIfInBounds_toArray, List.set_cons_zero, List.set_cons_succ])
                      refine wpAny_done (by kernel_rfl) ?_ _
                      (try simp only [Act.put, List.setIfInBounds_toArray, List.set_cons_zero, List.set_cons_succ])
                      go_wp2_with fail
                      go_roundw
                      case rel => exact ⟨k + 1, A', c', by go_num, by omega, y3⟩
                      case measure => simp [intOf]; omega
                    exact AllReady.nil
                  exact AllReady.nil
                exact AllReady.nil
              exact AllReady.nil
            exact AllReady.nil
          refine AllReady.cons rfl (fun K hK => ?_) ?_
          · go_simp
            (try (refine hK _ _ ?_; clear hK K))
            (try simp only [Act.put, List.setIfInBounds_toArray, List.set_cons_zero, List.set_cons_succ])
            refine wpAny_ready (rs := [6]) (by kernel_rfl) (by simp) ?_
            refine AllReady.cons rfl (fun K hK => ?_) ?_
            · go_simp
              (try (refine hK _ _ ?_; clear hK K))
              (try simp only [Act.put, List.setIfInBounds_toArray, List.set_cons_zero, List.set_cons_succ])
              refine wpAny_ready (rs := [11]) (by kernel_rfl) (by simp) ?_
              refine AllReady.cons rfl (fun K hK => ?_) ?_
              · go_simp
                go_wp2_with (first
                    | (refine (hmk.out _).mono ?_; rintro e w3 ⟨u, rfl, hLk, hC3⟩; obtain ⟨uf, ucs, rfl⟩ := hLk.form; have hCr := Lib.hid ((hCb.out.drew).trans hC3); have d2 := hCr.out.cell c2c (by simp); have d2a := (fun o : Obj => ((Chg.refl [] w3).alloc o).cell d2 (by simp)); have hu1 := hLk.one; have hsb := Lib.hid (hCb.out.size); have hs3 := Lib.hid hC3.size; replace hLk := Lib.hid hLk; clear hC3))
                (try (refine hK _ _ ?_; clear hK K))
                (try simp only [Act.put, List.setIfInBounds_toArray, List.set_cons_zero, List.set_cons_succ])
                refine wpAny_ready (rs := [12]) (by kernel_rfl) (by simp) ?_
                refine AllReady.cons rfl (fun K hK => ?_) ?_
                · go_simp
                  (try (refine hK _ _ ?_; clear hK K))
                  (try simp only [Act.put, List.setIfInBounds_toArray, List.set_cons_zero, List.set_cons_succ])
                  refine wpAny_ready (rs := [13]) (by kernel_rfl) (by simp) ?_
                  refine AllReady.cons rfl (fun K hK => ?_) ?_
                  · (refine step_append_sl rfl (.tmp 45) (.tmp 53) 54 rfl 0 68 .nilFunc 1 8 Try.underlying54 Try.info_look rfl (by decide) _ k us2 (own_chg hG.out.2.1 (hCr.out.alloc _) (by simp)) rfl _ 1 [.func uf #[] ucs] (sl_wide_new w3 [.func uf #[] ucs] 68 1 rfl) rfl (by intro v hv; simp at hv; subst hv; exact hu1) (k + 1) rfl (by omega) (by decide) (Nat.zero_le _) ?_; intro A' c' w5 hO' hCh hat; obtain ⟨y1, y2, y3⟩ := rs_step hG.out hx.out (hCr.out.alloc _) (hLk.out.chg ((Chg.refl [] w3).alloc _) (by simp)) hsb.out (by simp) hs3.out hg1.out hb1.out ngb.out hO' hCh hat; replace y3 := Lib.hid y3; clear hO' hCh hat; refine hK _ _ ?_; clear hK K)
                    (try simp only [Act.put, List.setIfInBounds_toArray, List.set_cons_zero, List.set_cons_succ])
                    refine wpAny_take (i := 14) (v := ?_) rfl (by kernel_rfl) (by kernel_rfl) (by kernel_rfl) (fun _ _ _ h => h) (Or.inl ⟨by kernel_rfl, ?_⟩) ?_
                    rotate_left
                    · (intro w; go_simp; try with_reducible rfl)
                    change wpAny _ _ _ _ _ _ (Act.put _ (some 55) _) _
                    (try simp only [Act.put, List.setIfInBounds_toArray, List.set_cons_zero, List.set_cons_succ])
                    refine wpAny_take (i := 15) (v := ?_) rfl (by kernel_rfl) (by kernel_rfl) (by kernel_rfl) (fun _ _ _ h => h) (Or.inl ⟨by kernel_rfl, ?_⟩) ?_
                    rotate_left
                    · (intro w; go_simp; try with_reducible rfl)
                    change wpAny _ _ _ _ _ _ (Act.put _ (some 56) _) _
                    (try simp only [Act.put, List.setIfInBounds_toArray, List.set_cons_zero, List.set_cons_succ])
                    refine wpAny_ready (rs := [16]) (by kernel_rfl) (by simp) ?_
                    refine AllReady.cons rfl (fun K hK => ?_) ?_
                    · go_simp
                      (try (refine hK _ _ ?_; clear hK K))
                      (try simp only [Act.put, List.setIfInBounds_toArray, List.set_cons_zero, List.set_cons_succ])
                      refine wpAny_done (by kernel_rfl) ?_ _
                      (try simp only [Act.put, List.setIfInBounds_toArray, List.set_cons_zero, List.set_cons_succ])
                      go_wp2_with fail
                      go_roundw
                      case rel => exact ⟨k + 1, A', c', by go_num, by omega, y3⟩
                      case measure => simp [intOf]; omega
                    exact AllReady.nil
                  exact AllReady.nil
                exact AllReady.nil
              exact AllReady.nil
            exact AllReady.nil
          exact AllReady.nil
        refine AllReady.cons rfl (fun K hK => ?_) ?_
        · go_simp
          (try (refine hK _ _ ?_; clear hK K))
          (try simp only [Act.put, List.setIfInBounds_toArray, List.set_cons_zero, List.set_cons_succ])
          refine wpAny_ready (rs := [4, 10]) (by kernel_rfl) (by simp) ?_
          refine AllReady.cons rfl (fun K hK => ?_) ?_
          · go_simp
            (try (refine hK _ _ ?_; clear hK K))
            (try simp only [Act.put, List.setIfInBounds_toArray, List.set_cons_zero, List.set_cons_succ])
            refine wpAny_ready (rs := [10]) (by kernel_rfl) (by simp) ?_
            refine AllReady.cons rfl (fun K hK => ?_) ?_
            · go_simp
              (try (refine hK _ _ ?_; clear hK K))
              (try simp only [Act.put, List.setIfInBounds_toArray, List.set_cons_zero, List.set_cons_succ])
              refine wpAny_ready (rs := [11]) (by kernel_rfl) (by simp) ?_
              refine AllReady.cons rfl (fun K hK => ?_) ?_
              · go_simp
                go_wp2_with (first
                    | (refine (hmk.out _).mono ?_; rintro e w3 ⟨u, rfl, hLk, hC3⟩; obtain ⟨uf, ucs, rfl⟩ := hLk.form; have hCr := Lib.hid ((hCb.out.drew).trans hC3); have d2 := hCr.out.cell c2c (by simp); have d2a := (fun o : Obj => ((Chg.refl [] w3).alloc o).cell d2 (by simp)); have hu1 := hLk.one; have hsb := Lib.hid (hCb.out.size); have hs3 := Lib.hid hC3.size; replace hLk := Lib.hid hLk; clear hC3))
                (try (refine hK _ _ ?_; clear hK K))
                (try simp only [Act.put, List.setIfInBounds_toArray, List.set_cons_zero, List.set_cons_succ])
                refine wpAny_ready (rs := [12]) (by kernel_rfl) (by simp) ?_
                refine AllReady.cons rfl (fun K hK => ?_) ?_
                · go_simp
                  (try (refine hK _ _ ?_; clear hK K))
                  (try simp only [Act.put, List.setIfInBounds_toArray, List.set_cons_zero, List.set_cons_succ])
                  refine wpAny_ready (rs := [13]) (by kernel_rfl) (by simp) ?_
                  refine AllReady.cons rfl (fun K hK => ?_) ?_
                  · (refine step_append_sl rfl (.tmp 45) (.tmp 53) 54 rfl 0 68 .nilFunc 1 8 Try.underlying54 Try.info_look rfl (by decide) _ k us2 (own_chg hG.out.2.1 (hCr.out.alloc _) (by simp)) rfl _ 1 [.func uf #[] ucs] (sl_wide_new w3 [.func uf #[] ucs] 68 1 rfl) rfl (by intro v hv; simp at hv; subst hv; exact hu1) (k + 1) rfl (by omega) (by decide) (Nat.zero_le _) ?_; intro A' c' w5 hO' hCh hat; obtain ⟨y1, y2, y3⟩ := rs_step hG.out hx.out (hCr.out.alloc _) (hLk.out.chg ((Chg.refl [] w3).alloc _) (by simp)) hsb.out (by simp) hs3.out hg1.out hb1.out ngb.out hO' hCh hat; replace y3 := Lib.hid y3; clear hO' hCh hat; refine hK _ _ ?_; clear hK K)
                    (try simp only [Act.put, List.setIfInBounds_toArray, List.set_cons_zero, List.set_cons_succ])
                    refine wpAny_take (i := 14) (v := ?_) rfl (by kernel_rfl) (by kernel_rfl) (by kernel_rfl) (fun _ _ _ h => h) (Or.inl ⟨by kernel_rfl, ?_⟩) ?_
                    rotate_left
                    · (intro w; go_simp; try with_reducible rfl)
                    change wpAny _ _ _ _ _ _ (Act.put _ (some 55) _) _
                    (try simp only [Act.put, List.setIfInBounds_toArray, List.set_cons_zero, List.set_cons_succ])
                    refine wpAny_take (i := 15) (v := ?_) rfl (by kernel_rfl) (by kernel_rfl) (by kernel_rfl) (fun _ _ _ h => h) (Or.inl ⟨by kernel_rfl, ?_⟩) ?_
                    rotate_left
                    · (intro w; go_simp; try with_reducible rfl)
                    change wpAny _ _ _ _ _ _ (Act.put _ (some 56) _) _
                    (try simp only [Act.put, List.setIfInBounds_toArray, List.set_cons_zero, List.set_cons_succ])
                    refine wpAny_ready (rs := [16]) (by kernel_rfl) (by simp) ?_
                    refine AllReady.cons rfl (fun K hK => ?_) ?_
                    · go_simp
                      (try (refine hK _ _ ?_; clear hK K))
                      (try simp only [Act.put, List.setIfInBounds_toArray, List.set_cons_zero, List.set_cons_succ])
                      refine wpAny_done (by kernel_rfl) ?_ _
                      (try simp only [Act.put, List.setIfInBounds_toArray, List.set_cons_zero, List.set_cons_succ])
                      go_wp2_with fail
                      go_roundw
                      case rel => exact ⟨k + 1, A', c', by go_num, by omega, y3⟩
                      case measure => simp [intOf]; omega
                    exact AllReady.nil
                  exact AllReady.nil
                exact AllReady.nil
              exact AllReady.nil
            exact AllReady.nil
          refine AllReady.cons rfl (fun K hK => ?_) ?_
          · go_simp
            (try (refine hK _ _ ?_; clear hK K))
            (try simp only [Act.put, List.setIfInBounds_toArray, List.set_cons_zero, List.set_cons_succ])
            refine wpAny_ready (rs := [4, 11]) (by kernel_rfl) (by simp) ?_
            refine AllReady.cons rfl (fun K hK => ?_) ?_
            · go_simp
              (try (refine hK _ _ ?_; clear hK K))
              (try simp only [Act.put, List.setIfInBounds_toArray, List.set_cons_zero, List.set_cons_succ])
              refine wpAny_ready (rs := [11]) (by kernel_rfl) (by simp) ?_
              refine AllReady.cons rfl (fun K hK => ?_) ?_
              · go_simp
                go_wp2_with (first
                    | (refine (hmk.out _).mono ?_; rintro e w3 ⟨u, rfl, hLk, hC3⟩; obtain ⟨uf, ucs, rfl⟩ := hLk.form; have hCr := Lib.hid ((hCb.out.drew).trans hC3); have d2 := hCr.out.cell c2c (by simp); have d2a := (fun o : Obj => ((Chg.refl [] w3).alloc o).cell d2 (by simp)); have hu1 := hLk.one; have hsb := Lib.hid (hCb.out.size); have hs3 := Lib.hid hC3.size; replace hLk := Lib.hid hLk; clear hC3))
                (try (refine hK _ _ ?_; clear hK K))
                (try simp only [Act.put, List.setIfInBounds_toArray, List.set_cons_zero, List.set_cons_succ])
                refine wpAny_ready (rs := [12]) (by kernel_rfl) (by simp) ?_
                refine AllReady.cons rfl (fun K hK => ?_) ?_
                · go_simp
                  (try (refine hK _ _ ?_; clear hK K))
                  (try simp only [Act.put, List.setIfInBounds_toArray, List.set_cons_zero, List.set_cons_succ])
                  refine wpAny_ready (rs := [13]) (by kernel_rfl) (by simp) ?_
                  refine AllReady.cons rfl (fun K hK => ?_) ?_
                  · (refine step_append_sl rfl (.tmp 45) (.tmp 53) 54 rfl 0 68 .nilFunc 1 8 Try.underlying54 Try.info_look rfl (by decide) _ k us2 (own_chg hG.out.2.1 (hCr.out.alloc _) (by simp)) rfl _ 1 [.func uf #[] ucs] (sl_wide_new w3 [.func uf #[] ucs] 68 1 rfl) rfl (by intro v hv; simp at hv; subst hv; exact hu1) (k + 1) rfl (by omega) (by decide) (Nat.zero_le _) ?_; intro A' c' w5 hO' hCh hat; obtain ⟨y1, y2, y3⟩ := rs_step hG.out hx.out (hCr.out.alloc _) (hLk.out.chg ((Chg.refl [] w3).alloc _) (by simp)) hsb.out (by simp) hs3.out hg1.out hb1.out ngb.out hO' hCh hat; replace y3 := Lib.hid y3; clear hO' hCh hat; refine hK _ _ ?_; clear hK K)
                    (try simp only [Act.put, List.setIfInBounds_toArray, List.set_cons_zero, List.set_cons_succ])
                    refine wpAny_take (i := 14) (v := ?_) rfl (by kernel_rfl) (by kernel_rfl) (by kernel_rfl) (fun _ _ _ h => h) (Or.inl ⟨by kernel_rfl, ?_⟩) ?_
                    rotate_left
                    · (intro w; go_simp; try with_reducible rfl)
                    change wpAny _ _ _ _ _ _ (Act.put _ (some 55) _) _
                    (try simp only [Act.put, List.setIfInBounds_toArray, List.set_cons_zero, List.set_cons_succ])
                    refine wpAny_take (i := 15) (v := ?_) rfl (by kernel_rfl) (by kernel_rfl) (by kernel_rfl) (fun _ _ _ h => h) (Or.inl ⟨by kernel_rfl, ?_⟩) ?_
                    rotate_left
                    · (intro w; go_simp; try with_reducible rfl)
                    change wpAny _ _ _ _ _ _ (Act.put _ (some 56) _) _
                    (try simp only [Act.put, List.setIfInBounds_toArray, List.set_cons_zero, List.set_cons_succ])
                    refine wpAny_ready (rs := [16]) (by kernel_rfl) (by simp) ?_
                    refine AllReady.cons rfl (fun K hK => ?_) ?_
                    · go_simp
                      (try (refine hK _ _ ?_; clear hK K))
                      (try simp only [Act.put, List.setIfInBounds_toArray, List.set_cons_zero, List.set_cons_succ])
                      refine wpAny_done (by kernel_rfl) ?_ _
                      (try simp only [Act.put, List.setIfInBounds_toArray, List.set_cons_zero, List.set_cons_succ])
                      go_wp2_with fail
                      go_roundw
                      case rel => exact ⟨k + 1, A', c', by go_num, by omega, y3⟩
                      case measure => simp [intOf]; omega
                    exact AllReady.nil
                  exact AllReady.nil
                exact AllReady.nil
              exact AllReady.nil
            refine AllReady.cons rfl (fun K hK => ?_) ?_
            · go_simp
              go_wp2_with (first
                  | (refine (hmk.out _).mono ?_; rintro e w3 ⟨u, rfl, hLk, hC3⟩; obtain ⟨uf, ucs, rfl⟩ := hLk.form; have hCr := Lib.hid ((hCb.out.drew).trans hC3); have d2 := hCr.out.cell c2c (by simp); have d2a := (fun o : Obj => ((Chg.refl [] w3).alloc o).cell d2 (by simp)); have hu1 := hLk.one; have hsb := Lib.hid (hCb.out.size); have hs3 := Lib.hid hC3.size; replace hLk := Lib.hid hLk; clear hC3))
              (try (refine hK _ _ ?_; clear hK K))
              (try simp only [Act.put, List.setIfInBounds_toArray, List.set_cons_zero, List.set_cons_succ])
              refine wpAny_ready (rs := [4, 12]) (by kernel_rfl) (by simp) ?_
              refine AllReady.cons rfl (fun K hK => ?_) ?_
              · go_simp
                (try (refine hK _ _ ?_; clear hK K))
                (try simp only [Act.put, List.setIfInBounds_toArray, List.set_cons_zero, List.set_cons_succ])
                refine wpAny_ready (rs := [12]) (by kernel_rfl) (by simp) ?_
                refine AllReady.cons rfl (fun K hK => ?_) ?_
                · go_simp
                  (try (refine hK _ _ ?_; clear hK K))
                  (try simp only [Act.put, List.setIfInBounds_toArray, List.set_cons_zero, List.set_cons_succ])
                  refine wpAny_ready (rs := [13]) (by kernel_rfl) (by simp) ?_
                  refine AllReady.cons rfl (fun K hK => ?_) ?_
                  · (refine step_append_sl rfl (.tmp 45) (.tmp 53) 54 rfl 0 68 .nilFunc 1 8 Try.underlying54 Try.info_look rfl (by decide) _ k us2 (own_chg hG.out.2.1 (hCr.out.alloc _) (by simp)) rfl _ 1 [.func uf #[] ucs] (sl_wide_new w3 [.func uf #[] ucs] 68 1 rfl) rfl (by intro v hv; simp at hv; subst hv; exact hu1) (k + 1) rfl (by omega) (by decide) (Nat.zero_le _) ?_; intro A' c' w5 hO' hCh hat; obtain ⟨y1, y2, y3⟩ := rs_step hG.out hx.out (hCr.out.alloc _) (hLk.out.chg ((Chg.refl [] w3).alloc _) (by simp)) hsb.out (by simp) hs3.out hg1.out hb1.out ngb.out hO' hCh hat; replace y3 := Lib.hid y3; clear hO' hCh hat; refine hK _ _ ?_; clear hK K)
                    (try simp only [Act.put, List.setIfInBounds_toArray, List.set_cons_zero, List.set_cons_succ])
                    refine wpAny_take (i := 14) (v := ?_) rfl (by kernel_rfl) (by kernel_rfl) (by kernel_rfl) (fun _ _ _ h => h) (Or.inl ⟨by kernel_rfl, ?_⟩) ?_
                    rotate_left
                    · (intro w; go_simp; try with_reducible rfl)
                    change wpAny _ _ _ _ _ _ (Act.put _ (some 55) _) _
                    (try simp only [Act.put, List.setIfInBounds_toArray, List.set_cons_zero, List.set_cons_succ])
                    refine wpAny_take (i := 15) (v := ?_) rfl (by kernel_rfl) (by kernel_rfl) (by kernel_rfl) (fun _ _ _ h => h) (Or.inl ⟨by kernel_rfl, ?_⟩) ?_
                    rotate_left
                    · (intro w; go_simp; try with_reducible rfl)
                    change wpAny _ _ _ _ _ _ (Act.put _ (some 56) _) _
                    (try simp only [Act.put, List.setIfInBounds_toArray, List.set_cons_zero, List.set_cons_succ])
                    refine wpAny_ready (rs := [16]) (by kernel_rfl) (by simp) ?_
                    refine AllReady.cons rfl (fun K hK => ?_) ?_
                    · go_simp
                      (try (refine hK _ _ ?_; clear hK K))
                      (try simp only [Act.put, List.setIfInBounds_toArray, List.set_cons_zero, List.set_cons_succ])
                      refine wpAny_done (by kernel_rfl) ?_ _
                      (try simp only [Act.put, List.setIfInBounds_toArray, List.set_cons_zero, List.set_cons_succ])
                      go_wp2_with fail
                      go_roundw
                      case rel => exact ⟨k + 1, A', c', by go_num, by omega, y3⟩
                      case measure => simp [intOf]; omega
                    exact AllReady.nil
                  exact AllReady.nil
                exact AllReady.nil
              refine AllReady.cons rfl (fun K hK => ?_) ?_
              · go_simp
                (try (refine hK _ _ ?_; clear hK K))
                (try simp only [Act.put, List.setIfInBounds_toArray, List.set_cons_zero, List.set_cons_succ])
                refine wpAny_ready (rs := [4]) (by kernel_rfl) (by simp) ?_
                refine AllReady.cons rfl (fun K hK => ?_) ?_
                · go_simp
                  (try (refine hK _ _ ?_; clear hK K))
                  (try simp only [Act.put, List.setIfInBounds_toArray, List.set_cons_zero, List.set_cons_succ])
                  refine wpAny_ready (rs := [13]) (by kernel_rfl) (by simp) ?_
                  refine AllReady.cons rfl (fun K hK => ?_) ?_
                  · (refine step_append_sl rfl (.tmp 45) (.tmp 53) 54 rfl 0 68 .nilFunc 1 8 Try.underlying54 Try.info_look rfl (by decide) _ k us2 (own_chg hG.out.2.1 (hCr.out.alloc _) (by simp)) rfl _ 1 [.func uf #[] ucs] (sl_wide_new w3 [.func uf #[] ucs] 68 1 rfl) rfl (by intro v hv; simp at hv; subst hv; exact hu1) (k + 1) rfl (by omega) (by decide) (Nat.zero_le _) ?_; intro A' c' w5 hO' hCh hat; obtain ⟨y1, y2, y3⟩ := rs_step hG.out hx.out (hCr.out.alloc _) (hLk.out.chg ((Chg.refl [] w3).alloc _) (by simp)) hsb.out (by simp) hs3.out hg1.out hb1.out ngb.out hO' hCh hat; replace y3 := Lib.hid y3; clear hO' hCh hat; refine hK _ _ ?_; clear hK K)
                    (try simp only [Act.put, List.setIfInBounds_toArray, List.set_cons_zero, List.set_cons_succ])
                    refine wpAny_take (i := 14) (v := ?_) rfl (by kernel_rfl) (by kernel_rfl) (by kernel_rfl) (fun _ _ _ h => h) (Or.inl ⟨by kernel_rfl, ?_⟩) ?_
                    rotate_left
                    · (intro w; go_simp; try with_reducible rfl)
                    change wpAny _ _ _ _ _ _ (Act.put _ (some 55) _) _
                    (try simp only [Act.put, List.setIfInBounds_toArray, List.set_cons_zero, List.set_cons_succ])
                    refine wpAny_take (i := 15) (v := ?_) rfl (by kernel_rfl) (by kernel_rfl) (by kernel_rfl) (fun _ _ _ h => h) (Or.inl ⟨by kernel_rfl, ?_⟩) ?_
                    rotate_left
                    · (intro w; go_simp; try with_reducible rfl)
                    change wpAny _ _ _ _ _ _ (Act.put _ (some 56) _) _
                    (try simp only [Act.put, List.setIfInBounds_toArray, List.set_cons_zero, List.set_cons_succ])
                    refine wpAny_ready (rs := [16]) (by kernel_rfl) (by simp) ?_
                    refine AllReady.cons rfl (fun K hK => ?_) ?_
                    · go_simp
                      (try (refine hK _ _ ?_; clear hK K))
                      (try simp only [Act.put, List.setIfInBounds_toArray, List.set_cons_zero, List.set_cons_succ])
                      refine wpAny_done (by kernel_rfl) ?_ _
                      (try simp only [Act.put, List.setIfInBounds_toArray, List.set_cons_zero, List.set_cons_succ])
                      go_wp2_with fail
                      go_roundw
                      case rel => exact ⟨k + 1, A', c', by go_num, by omega, y3⟩
                      case measure => simp [intOf]; omega
                    exact AllReady.nil
                  exact AllReady.nil
                exact AllReady.nil
              exact AllReady.nil
            exact AllReady.nil
          exact AllReady.nil
        refine AllReady.cons rfl (fun K hK => ?_) ?_
        · go_simp
          (try (refine hK _ _ ?_; clear hK K))
          (try simp only [Act.put, List.setIfInBounds_toArray, List.set_cons_zero, List.set_cons_succ])
          refine wpAny_ready (rs := [4, 6]) (by kernel_rfl) (by simp) ?_
          refine AllReady.cons rfl (fun K hK => ?_) ?_
          · go_simp
            (try (refine hK _ _ ?_; clear hK K))
            (try simp only [Act.put, List.setIfInBounds_toArray, List.set_cons_zero, List.set_cons_succ])
            refine wpAny_ready (rs := [6]) (by kernel_rfl) (by simp) ?_
            refine AllReady.cons rfl (fun K hK => ?_) ?_
            · go_simp
              (try (refine hK _ _ ?_; clear hK K))
              (try simp only [Act.put, List.setIfInBounds_toArray, List.set_cons_zero, List.set_cons_succ])
              refine wpAny_ready (rs := [11]) (by kernel_rfl) (by simp) ?_
              refine AllReady.cons rfl (fun K hK => ?_) ?_
              · go_simp
                go_wp2_with (first
                    | (refine (hmk.out _).mono ?_; rintro e w3 ⟨u, rfl, hLk, hC3⟩; obtain ⟨uf, ucs, rfl⟩ := hLk.form; have hCr := Lib.hid ((hCb.out.drew).trans hC3); have d2 := hCr.out.cell c2c (by simp); have d2a := (fun o : Obj => ((Chg.refl [] w3).alloc o).cell d2 (by simp)); have hu1 := hLk.one; have hsb := Lib.hid (hCb.out.size); have hs3 := Lib.hid hC3.size; replace hLk := Lib.hid hLk; clear hC3))
                (try (refine hK _ _ ?_; clear hK K))
                (try simp only [Act.put, List.setIfInBounds_toArray, List.set_cons_zero, List.set_cons_succ])
                refine wpAny_ready (rs := [12]) (by kernel_rfl) (by simp) ?_
                refine AllReady.cons rfl (fun K hK => ?_) ?_
                · go_simp
                  (try (refine hK _ _ ?_; clear hK K))
                  (try simp only [Act.put, List.setIfInBounds_toArray, List.set_cons_zero, List.set_cons_succ])
                  refine wpAny_ready (rs := [13]) (by kernel_rfl) (by simp) ?_
                  refine AllReady.cons rfl (fun K hK => ?_) ?_
                  · (refine step_append_sl rfl (.tmp 45) (.tmp 53) 54 rfl 0 68 .nilFunc 1 8 Try.underlying54 Try.info_look rfl (by decide) _ k us2 (own_chg hG.out.2.1 (hCr.out.alloc _) (by simp)) rfl _ 1 [.func uf #[] ucs] (sl_wide_new w3 [.func uf #[] ucs] 68 1 rfl) rfl (by intro v hv; simp at hv; subst hv; exact hu1) (k + 1) rfl (by omega) (by decide) (Nat.zero_le _) ?_; intro A' c' w5 hO' hCh hat; obtain ⟨y1, y2, y3⟩ := rs_step hG.out hx.out (hCr.out.alloc _) (hLk.out.chg ((Chg.refl [] w3).alloc _) (by simp)) hsb.out (by simp) hs3.out hg1.out hb1.out ngb.out hO' hCh hat; replace y3 := Lib.hid y3; clear hO' hCh hat; refine hK _ _ ?_; clear hK K)
                    (try simp only [Act.put, List.setIfInBounds_toArray, List.set_cons_zero, List.set_cons_succ])
                    refine wpAny_take (i := 14) (v := ?_) rfl (by kernel_rfl) (by kernel_rfl) (by kernel_rfl) (fun _ _ _ h => h) (Or.inl ⟨by kernel_rfl, ?_⟩) ?_
                    rotate_left
                    · (intro w; go_simp; try with_reducible rfl)
                    change wpAny _ _ _ _ _ _ (Act.put _ (some 55) _) _
                    (try simp only [Act.put, List.setIfInBounds_toArray, List.set_cons_zero, List.set_cons_succ])
                    refine wpAny_take (i := 15) (v := ?_) rfl (by kernel_rfl) (by kernel_rfl) (by kernel_rfl) (fun _ _ _ h => h) (Or.inl ⟨by kernel_rfl, ?_⟩) ?_
                    rotate_left
                    · (intro w; go_simp; try with_reducible rfl)
                    change wpAny _ _ _ _ _ _ (Act.put _ (some 56) _) _
                    (try simp only [Act.put, List.setIfInBounds_toArray, List.set_cons_zero, List.set_cons_succ])
                    refine wpAny_ready (rs := [16]) (by kernel_rfl) (by simp) ?_
                    refine AllReady.cons rfl (fun K hK => ?_) ?_
                    · go_simp
                      (try (refine hK _ _ ?_; clear hK K))
                      (try simp only [Act.put, List.setIfInBounds_toArray, List.set_cons_zero, List.set_cons_succ])
                      refine wpAny_done (by kernel_rfl) ?_ _
                      (try simp only [Act.put, List.setIfInBounds_toArray, List.set_cons_zero, List.set_cons_succ])
                      go_wp2_with fail
                      go_roundw
                      case rel => exact ⟨k + 1, A', c', by go_num, by omega, y3⟩
                      case measure => simp [intOf]; omega
                    exact AllReady.nil
                  exact AllReady.nil
                exact AllReady.nil
              exact AllReady.nil
            exact AllReady.nil
          refine AllReady.cons rfl (fun K hK => ?_) ?_
          · go_simp
            (try (refine hK _ _ ?_; clear hK K))
            (try simp only [Act.put, List.setIfInBounds_toArray, List.set_cons_zero, List.set_cons_succ])
            refine wpAny_ready (rs := [4, 11]) (by kernel_rfl) (by simp) ?_
            refine AllReady.cons rfl (fun K hK => ?_) ?_
            · go_simp
              (try (refine hK _ _ ?_; clear hK K))
              (try simp only [Act.put, List.setIfInBounds_toArray, List.set_cons_zero, List.set_cons_succ])
              refine wpAny_ready (rs := [11]) (by kernel_rfl) (by simp) ?_
              refine AllReady.cons rfl (fun K hK => ?_) ?_
              · go_simp
                go_wp2_with (first
                    | (refine (hmk.out _).mono ?_; rintro e w3 ⟨u, rfl, hLk, hC3⟩; obtain ⟨uf, ucs, rfl⟩ := hLk.form; have hCr := Lib.hid ((hCb.out.drew).trans hC3); have d2 := hCr.out.cell c2c (by simp); have d2a := (fun o : Obj => ((Chg.refl [] w3).alloc o).cell d2 (by simp)); have hu1 := hLk.one; have hsb := Lib.hid (hCb.out.size); have hs3 := Lib.hid hC3.size; replace hLk := Lib.hid hLk; clear hC3))
                (try (refine hK _ _ ?_; clear hK K))
                (try simp only [Act.put, List.setIfInBounds_toArray, List.set_cons_zero, List.set_cons_succ])
                refine wpAny_ready (rs := [12]) (by kernel_rfl) (by simp) ?_
                refine AllReady.cons rfl (fun K hK => ?_) ?_
                · go_simp
                  (try (refine hK _ _ ?_; clear hK K))
                  (try simp only [Act.put, List.setIfInBounds_toArray, List.set_cons_zero, List.set_cons_succ])
                  refine wpAny_ready (rs := [13]) (by kernel_rfl) (by simp) ?_
                  refine AllReady.cons rfl (fun K hK => ?_) ?_
                  · (refine step_append_sl rfl (.tmp 45) (.tmp 53) 54 rfl 0 68 .nilFunc 1 8 Try.underlying54 Try.info_look rfl (by decide) _ k us2 (own_chg hG.out.2.1 (hCr.out.alloc _) (by simp)) rfl _ 1 [.func uf #[] ucs] (sl_wide_new w3 [.func uf #[] ucs] 68 1 rfl) rfl (by intro v hv; simp at hv; subst hv; exact hu1) (k + 1) rfl (by omega) (by decide) (Nat.zero_le _) ?_; intro A' c' w5 hO' hCh hat; obtain ⟨y1, y2, y3⟩ := rs_step hG.out hx.out (hCr.out.alloc _) (hLk.out.chg ((Chg.refl [] w3).alloc _) (by simp)) hsb.out (by simp) hs3.out hg1.out hb1.out ngb.out hO' hCh hat; replace y3 := Lib.hid y3; clear hO' hCh hat; refine hK _ _ ?_; clear hK K)
                    (try simp only [Act.put, List.setIfInBounds_toArray, List.set_cons_zero, List.set_cons_succ])
                    refine wpAny_take (i := 14) (v := ?_) rfl (by kernel_rfl) (by kernel_rfl) (by kernel_rfl) (fun _ _ _ h => h) (Or.inl ⟨by kernel_rfl, ?_⟩) ?_
                    rotate_left
                    · (intro w; go_simp; try with_reducible rfl)
                    change wpAny _ _ _ _ _ _ (Act.put _ (some 55) _) _
                    (try simp only [Act.put, List.setIfInBounds_toArray, List.set_cons_zero, List.set_cons_succ])
                    refine wpAny_take (i := 15) (v := ?_) rfl (by kernel_rfl) (by kernel_rfl) (by kernel_rfl) (fun _ _ _ h => h) (Or.inl ⟨by kernel_rfl, ?_⟩) ?_
                    rotate_left
                    · (intro w; go_simp; try with_reducible rfl)
                    change wpAny _ _ _ _ _ _ (Act.put _ (some 56) _) _
                    (try simp only [Act.put, List.setIfInBounds_toArray, List.set_cons_zero, List.set_cons_succ])
                    refine wpAny_ready (rs := [16]) (by kernel_rfl) (by simp) ?_
                    refine AllReady.cons rfl (fun K hK => ?_) ?_
                    · go_simp
                      (try (refine hK _ _ ?_; clear hK K))
                      (try simp only [Act.put, List.setIfInBounds_toArray, List.set_cons_zero, List.set_cons_succ])
                      refine wpAny_done (by kernel_rfl) ?_ _
                      (try simp only [Act.put, List.setIfInBounds_toArray, List.set_cons_zero, List.set_cons_succ])
                      go_wp2_with fail
                      go_roundw
                      case rel => exact ⟨k + 1, A', c', by go_num, by omega, y3⟩
                      case measure => simp [intOf]; omega
                    exact AllReady.nil
                  exact AllReady.nil
                exact AllReady.nil
              exact AllReady.nil
            refine AllReady.cons rfl (fun K hK => ?_) ?_
            · go_simp
              go_wp2_with (first
                  | (refine (hmk.out _).mono ?_; rintro e w3 ⟨u, rfl, hLk, hC3⟩; obtain ⟨uf, ucs, rfl⟩ := hLk.form; have hCr := Lib.hid ((hCb.out.drew).trans hC3); have d2 := hCr.out.cell c2c (by simp); have d2a := (fun o : Obj => ((Chg.refl [] w3).alloc o).cell d2 (by simp)); have hu1 := hLk.one; have hsb := Lib.hid (hCb.out.size); have hs3 := Lib.hid hC3.size; replace hLk := Lib.hid hLk; clear hC3))
              (try (refine hK _ _ ?_; clear hK K))
              (try simp only [Act.put, List.setIfInBounds_toArray, List.set_cons_zero, List.set_cons_succ])
              refine wpAny_ready (rs := [4, 12]) (by kernel_rfl) (by simp) ?_
              refine AllReady.cons rfl (fun K hK => ?_) ?_
              · go_simp
                (try (refine hK _ _ ?_; clear hK K))
                (try simp only [Act.put, List.setIfInBounds_toArray, List.set_cons_zero, List.set_cons_succ])
                refine wpAny_ready (rs := [12]) (by kernel_rfl) (by simp) ?_
                refine AllReady.cons rfl (fun K hK => ?_) ?_
                · go_simp
                  (try (refine hK _ _ ?_; clear hK K))
                  (try simp only [Act.put, List.setIfInBounds_toArray, List.set_cons_zero, List.set_cons_succ])
                  refine wpAny_ready (rs := [13]) (by kernel_rfl) (by simp) ?_
                  refine AllReady.cons rfl (fun K hK => ?_) ?_
                  · (refine step_append_sl rfl (.tmp 45) (.tmp 53) 54 rfl 0 68 .nilFunc 1 8 Try.underlying54 Try.info_look rfl (by decide) _ k us2 (own_chg hG.out.2.1 (hCr.out.alloc _) (by simp)) rfl _ 1 [.func uf #[] ucs] (sl_wide_new w3 [.func uf #[] ucs] 68 1 rfl) rfl (by intro v hv; simp at hv; subst hv; exact hu1) (k + 1) rfl (by omega) (by decide) (Nat.zero_le _) ?_; intro A' c' w5 hO' hCh hat; obtain ⟨y1, y2, y3⟩ := rs_step hG.out hx.out (hCr.out.alloc _) (hLk.out.chg ((Chg.refl [] w3).alloc _) (by simp)) hsb.out (by simp) hs3.out hg1.out hb1.out ngb.out hO' hCh hat; replace y3 := Lib.hid y3; clear hO' hCh hat; refine hK _ _ ?_; clear hK K)
                    (try simp only [Act.put, List.setIfInBounds_toArray, List.set_cons_zero, List.set_cons_succ])
                    refine wpAny_take (i := 14) (v := ?_) rfl (by kernel_rfl) (by kernel_rfl) (by kernel_rfl) (fun _ _ _ h => h) (Or.inl ⟨by kernel_rfl, ?_⟩) ?_
                    rotate_left
                    · (intro w; go_simp; try with_reducible rfl)
                    change wpAny _ _ _ _ _ _ (Act.put _ (some 55) _) _
                    (try simp only [Act.put, List.setIfInBounds_toArray, List.set_cons_zero, List.set_cons_succ])
                    refine wpAny_take (i := 15) (v := ?_) rfl (by kernel_rfl) (by kernel_rfl) (by kernel_rfl) (fun _ _ _ h => h) (Or.inl ⟨by kernel_rfl, ?_⟩) ?_
                    rotate_left
                    · (intro w; go_simp; try with_reducible rfl)
                    change wpAny _ _ _ _ _ _ (Act.put _ (some 56) _) _
                    (try simp only [Act.put, List.setIfInBounds_toArray, List.set_cons_zero, List.set_cons_succ])
                    refine wpAny_ready (rs := [16]) (by kernel_rfl) (by simp) ?_
                    refine AllReady.cons rfl (fun K hK => ?_) ?_
                    · go_simp
                      (try (refine hK _ _ ?_; clear hK K))
                      (try simp only [Act.put, List.setIfInBounds_toArray, List.set_cons_zero, List.set_cons_succ])
                      refine wpAny_done (by kernel_rfl) ?_ _
                      (try simp only [Act.put, List.setIfInBounds_toArray, List.set_cons_zero, List.set_cons_succ])
                      go_wp2_with fail
                      go_roundw
                      case rel => exact ⟨k + 1, A', c', by go_num, by omega, y3⟩
                      case measure => simp [intOf]; omega
                    exact AllReady.nil
                  exact AllReady.nil
                exact AllReady.nil
              refine AllReady.cons rfl (fun K hK => ?_) ?_
              · go_simp
                (try (refine hK _ _ ?_; clear hK K))
                (try simp only [Act.put, List.setIfInBounds_toArray, List.set_cons_zero, List.set_cons_succ])
                refine wpAny_ready (rs := [4]) (by kernel_rfl) (by simp) ?_
                refine AllReady.cons rfl (fun K hK => ?_) ?_
                · go_simp
                  (try (refine hK _ _ ?_; clear hK K))
                  (try simp only [Act.put, List.setIfInBounds_toArray, List.set_cons_zero, List.set_cons_succ])
                  refine wpAny_ready (rs := [13]) (by kernel_rfl) (by simp) ?_
                  refine AllReady.cons rfl (fun K hK => ?_) ?_
                  · (refine step_append_sl rfl (.tmp 45) (.tmp 53) 54 rfl 0 68 .nilFunc 1 8 Try.underlying54 Try.info_look rfl (by decide) _ k us2 (own_chg hG.out.2.1 (hCr.out.alloc _) (by simp)) rfl _ 1 [.func uf #[] ucs] (sl_wide_new w3 [.func uf #[] ucs] 68 1 rfl) rfl (by intro v hv; simp at hv; subst hv; exact hu1) (k + 1) rfl (by omega) (by decide) (Nat.zero_le _) ?_; intro A' c' w5 hO' hCh hat; obtain ⟨y1, y2, y3⟩ := rs_step hG.out hx.out (hCr.out.alloc _) (hLk.out.chg ((Chg.refl [] w3).alloc _) (by simp)) hsb.out (by simp) hs3.out hg1.out hb1.out ngb.out hO' hCh hat; replace y3 := Lib.hid y3; clear hO' hCh hat; refine hK _ _ ?_; clear hK K)
                    (try simp only [Act.put, List.setIfInBounds_toArray, List.set_cons_zero, List.set_cons_succ])
                    refine wpAny_take (i := 14) (v := ?_) rfl (by kernel_rfl) (by kernel_rfl) (by kernel_rfl) (fun _ _ _ h => h) (Or.inl ⟨by kernel_rfl, ?_⟩) ?_
                    rotate_left
                    · (intro w; go_simp; try with_reducible rfl)
                    change wpAny _ _ _ _ _ _ (Act.put _ (some 55) _) _
                    (try simp only [Act.put, List.setIfInBounds_toArray, List.set_cons_zero, List.set_cons_succ])
                    refine wpAny_take (i := 15) (v := ?_) rfl (by kernel_rfl) (by kernel_rfl) (by kernel_rfl) (fun _ _ _ h => h) (Or.inl ⟨by kernel_rfl, ?_⟩) ?_
                    rotate_left
                    · (intro w; go_simp; try with_reducible rfl)
                    change wpAny _ _ _ _ _ _ (Act.put _ (some 56) _) _
                    (try simp only [Act.put, List.setIfInBounds_toArray, List.set_cons_zero, List.set_cons_succ])
                    refine wpAny_ready (rs := [16]) (by kernel_rfl) (by simp) ?_
                    refine AllReady.cons rfl (fun K hK => ?_) ?_
                    · go_simp
                      (try (refine hK _ _ ?_; clear hK K))
                      (try simp only [Act.put, List.setIfInBounds_toArray, List.set_cons_zero, List.set_cons_succ])
                      refine wpAny_done (by kernel_rfl) ?_ _
                      (try simp only [Act.put, List.setIfInBounds_toArray, List.set_cons_zero, List.set_cons_succ])
                      go_wp2_with fail
                      go_roundw
                      case rel => exact ⟨k + 1, A', c', by go_num, by omega, y3⟩
                      case measure => simp [intOf]; omega
                    exact AllReady.nil
                  exact AllReady.nil
                exact AllReady.nil
              exact AllReady.nil
            exact AllReady.nil
          exact AllReady.nil
        exact AllReady.nil

      · have hd0 : (x.kind == 0) = false := by simpa using hz0
        by_cases hz1 : x.kind = 1
        · obtain ⟨hpl, ths, hpt⟩ := hkg hz1
          have hmk := Lib.hid (fun W => like_any W most x ths hz1 hpt hpl)
          rw [hz1] at x0
          clear hk0 hk3 hkg hz0 hd0 hz1 hpl hpt
          have hCb := Lib.hid ((Chg.refl [] wr).alloc (.cells #[.int .i64 1, .string (bs x.pat)] 45))
          have e1 := hCb.out.cell c1c (by simp)
          have e2 := hCb.out.cell c2c (by simp)
          go_wp2_with fail
          refine wp_region_any (by kernel_rfl) ?_
          (try (change wpAny _ _ _ _ _ _ _ (World.drew _)))
          refine wpAny_take (i := 0) (v := ?_) rfl (by kernel_rfl) (by kernel_rfl) (by kernel_rfl) (fun _ _ _ h => h) (Or.inl ⟨by kernel_rfl, ?_⟩) ?_
          rotate_left
          · (intro w; go_simp; try with_reducible rfl)
          change wpAny _ _ _ _ _ _ (Act.put _ (some 59) _) _
          (try simp only [Act.put, List.setIfInBounds_toArray, List.set_cons_zero, List.set_cons_succ])
          refine wpAny_take (i := 1) (v := ?_) rfl (by kernel_rfl) (by kernel_rfl) (by kernel_rfl) (fun _ _ _ h => h) (Or.inl ⟨by kernel_rfl, ?_⟩) ?_
          rotate_left
          · (intro w; go_simp; try with_reducible rfl)
          change wpAny _ _ _ _ _ _ (Act.put _ (some 60) _) _
          (try simp only [Act.put, List.setIfInBounds_toArray, List.set_cons_zero, List.set_cons_succ])
          refine wpAny_take (i := 2) (v := ?_) rfl (by kernel_rfl) (by kernel_rfl) (by kernel_rfl) (fun _ _ _ h => h) (Or.inl ⟨by kernel_rfl, ?_⟩) ?_
          rotate_left
          · (intro w; go_simp; try with_reducible rfl)
          change wpAny _ _ _ _ _ _ (Act.put _ (some 61) _) _
          (try simp only [Act.put, List.setIfInBounds_toArray, List.set_cons_zero, List.set_cons_succ])
          refine wpAny_take (i := 3) (v := ?_) rfl (by kernel_rfl) (by kernel_rfl) (by kernel_rfl) (fun _ _ _ h => h) (Or.inl ⟨by kernel_rfl, ?_⟩) ?_
          rotate_left
          · (intro w; go_simp; try with_reducible rfl)
          change wpAny _ _ _ _ _ _ (Act.put _ (some 62) _) _
          (try simp only [Act.put, List.setIfInBounds_toArray, List.set_cons_zero, List.set_cons_succ])
          refine wpAny_take (i := 5) (v := ?_) rfl (by kernel_rfl) (by kernel_rfl) (by kernel_rfl) (fun _ _ _ h => h) (Or.inl ⟨by kernel_rfl, ?_⟩) ?_
          rotate_left
          · (intro w; go_simp; try with_reducible rfl)
          change wpAny _ _ _ _ _ _ (Act.put _ (some 64) _) _
          (try simp only [Act.put, List.setIfInBounds_toArray, List.set_cons_zero, List.set_cons_succ])
          refine wpAny_take (i := 7) (v := ?_) rfl (by kernel_rfl) (by kernel_rfl) (by kernel_rfl) (fun _ _ _ h => h) (Or.inl ⟨by kernel_rfl, ?_⟩) ?_
          rotate_left
          · (intro w; go_simp; try with_reducible rfl)
          change wpAny _ _ _ _ _ _ (Act.put _ (some 66) _) _
          (try simp only [Act.put, List.setIfInBounds_toArray, List.set_cons_zero, List.set_cons_succ])
          refine wpAny_take (i := 8) (v := ?_) rfl (by kernel_rfl) (by kernel_rfl) (by kernel_rfl) (fun _ _ _ h => h) (Or.inl ⟨by kernel_rfl, ?_⟩) ?_
          rotate_left
          · (intro w; go_simp; try with_reducible rfl)
          change wpAny _ _ _ _ _ _ (Act.put _ (some 67) _) _
          (try simp only [Act.put, List.setIfInBounds_toArray, List.set_cons_zero, List.set_cons_succ])
          refine wpAny_take (i := 9) (v := ?_) rfl (by kernel_rfl) (by kernel_rfl) (by kernel_rfl) (fun _ _ _ h => h) (Or.inl ⟨by kernel_rfl, ?_⟩) ?_
          rotate_left
          · (intro w; go_simp; try with_reducible rfl)
          change wpAny _ _ _ _ _ _ (Act.put _ (some 68) _) _
          (try simp only [Act.put, List.setIfInBounds_toArray, List.set_cons_zero, List.set_cons_succ])
          refine wpAny_ready (rs := [4, 6, 10]) (by kernel_rfl) (by simp) ?_
          refine AllReady.cons rfl (fun K hK => ?_) ?_
          · go_simp
            (try (refine hK _ _ ?_; clear hK K))
            (try simp only [Act.put, List.setIfInBounds_toArray, List.set_cons_zero, List.set_cons_succ])
            refine wpAny_ready (rs := [6, 10]) (by kernel_rfl) (by simp) ?_
            refine AllReady.cons rfl (fun K hK => ?_) ?_
            · go_simp
              (try (refine hK _ _ ?_; clear hK K))
              (try simp only [Act.put, List.setIfInBounds_toArray, List.set_cons_zero, List.set_cons_succ])
              refine wpAny_ready (rs := [10]) (by kernel_rfl) (by simp) ?_
              refine AllReady.cons rfl (fun K hK => ?_) ?_
              · go_simp
                (try (refine hK _ _ ?_; clear hK K))
                (try simp only [Act.put, List.setIfInBounds_toArray, List.set_cons_zero, List.set_cons_succ])
                refine wpAny_ready (rs := [11]) (by kernel_rfl) (by simp) ?_
                refine AllReady.cons rfl (fun K hK => ?_) ?_
                · go_simp
                  go_wp2_with (first
                      | (refine (hmk.out _).mono ?_; rintro e w3 ⟨u, rfl, hLk, hC3⟩; obtain ⟨uf, ucs, rfl⟩ := hLk.form; have hCr := Lib.hid ((hCb.out.drew).trans hC3); have d2 := hCr.out.cell c2c (by simp); have d2a := (fun o : Obj => ((Chg.refl [] w3).alloc o).cell d2 (by simp)); have hu1 := hLk.one; have hsb := Lib.hid (hCb.out.size); have hs3 := Lib.hid hC3.size; replace hLk := Lib.hid hLk; clear hC3))
                  (try (refine hK _ _ ?_; clear hK K))
                  (try simp only [Act.put, List.setIfInBounds_toArray, List.set_cons_zero, List.set_cons_succ])
                  refine wpAny_ready (rs := [12]) (by kernel_rfl) (by simp) ?_
                  refine AllReady.cons rfl (fun K hK => ?_) ?_
                  · go_simp
                    (try (refine hK _ _ ?_; clear hK K))
                    (try simp only [Act.put, List.setIfInBounds_toArray, List.set_cons_zero, List.set_cons_succ])
                    refine wpAny_ready (rs := [13]) (by kernel_rfl) (by simp) ?_
                    refine AllReady.cons rfl (fun K hK => ?_) ?_
                    · (refine step_append_sl rfl (.tmp 63) (.tmp 71) 54 rfl 0 68 .nilFunc 1 8 Try.underlying54 Try.info_look rfl (by decide) _ k us2 (own_chg hG.out.2.1 (hCr.out.alloc _) (by simp)) rfl _ 1 [.func uf #[] ucs] (sl_wide_new w3 [.func uf #[] ucs] 68 1 rfl) rfl (by intro v hv; simp at hv; subst hv; exact hu1) (k + 1) rfl (by omega) (by decide) (Nat.zero_le _) ?_; intro A' c' w5 hO' hCh hat; obtain ⟨y1, y2, y3⟩ := rs_step hG.out hx.out (hCr.out.alloc _) (hLk.out.chg ((Chg.refl [] w3).alloc _) (by simp)) hsb.out (by simp) hs3.out hg1.out hb1.out ngb.out hO' hCh hat; replace y3 := Lib.hid y3; clear hO' hCh hat; refine hK _ _ ?_; clear hK K)
                      (try simp only [Act.put, List.setIfInBounds_toArray, List.set_cons_zero, List.set_cons_succ])
                      refine wpAny_take (i := 14) (v := ?_) rfl (by kernel_rfl) (by kernel_rfl) (by kernel_rfl) (fun _ _ _ h => h) (Or.inl ⟨by kernel_rfl, ?_⟩) ?_
                      rotate_left
                      · (intro w; go_simp; try with_reducible rfl)
                      change wpAny _ _ _ _ _ _ (Act.put _ (some 73) _) _
                      (try simp only [Act.put, List.setIfInBounds_toArray, List.set_cons_zero, List.set_cons_succ])
                      refine wpAny_take (i := 15) (v := ?_) rfl (by kernel_rfl) (by kernel_rfl) (by kernel_rfl) (fun _ _ _ h => h) (Or.inl ⟨by kernel_rfl, ?_⟩) ?_
                      rotate_left
                      · (intro w; go_simp; try with_reducible rfl)
                      change wpAny _ _ _ _ _ _ (Act.put _ (some 74) _) _
                      (try simp only [Act.put, List.setIfInBounds_toArray, List.set_cons_zero, List.set_cons_succ])
                      refine wpAny_ready (rs := [16]) (by kernel_rfl) (by simp) ?_
                      refine AllReady.cons rfl (fun K hK => ?_) ?_
                      · go_simp
                        (try (refine hK _ _ ?_; clear hK K))
                        (try simp only [Act.put, List.setIfInBounds_toArray, List.set_cons_zero, List.set_cons_succ])
                        refine wpAny_done (by kernel_rfl) ?_ _
                        (try simp only [Act.put, List.setIfInBounds_toArray, List.set_cons_zero, List.set_cons_succ])
                        go_wp2_with fail
                        go_roundw
                        case rel => exact ⟨k + 1, A', c', by go_num, by omega, y3⟩
                        case measure => simp [intOf]; omega
                      exact AllReady.nil
                    exact AllReady.nil
                  exact AllReady.nil
                exact AllReady.nil
              exact AllReady.nil
            refine AllReady.cons rfl (fun K hK => ?_) ?_
            · go_simp
              (try (refine hK _ _ ?_; clear hK K))
              (try simp only [Act.put, List.setIfInBounds_toArray, List.set_cons_zero, List.set_cons_succ])
              refine wpAny_ready (rs := [6]) (by kernel_rfl) (by simp) ?_
              refine AllReady.cons rfl (fun K hK => ?_) ?_
              · go_simp
                (try (refine hK _ _ ?_; clear hK K))
                (try simp only [Act.put, List.setIfInBounds_toArray, List.set_cons_zero, List.set_cons_succ])
                refine wpAny_ready (rs := [11]) (by kernel_rfl) (by simp) ?_
                refine AllReady.cons rfl (fun K hK => ?_) ?_
                · go_simp
                  go_wp2_with (first
                      | (refine (hmk.out _).mono ?_; rintro e w3 ⟨u, rfl, hLk, hC3⟩; obtain ⟨uf, ucs, rfl⟩ := hLk.form; have hCr := Lib.hid ((hCb.out.drew).trans hC3); have d2 := hCr.out.cell c2c (by simp); have d2a := (fun o : Obj => ((Chg.refl [] w3).alloc o).cell d2 (by simp)); have hu1 := hLk.one; have hsb := Lib.hid (hCb.out.size); have hs3 := Lib.hid hC3.size; replace hLk := Lib.hid hLk; clear hC3))
                  (try (refine hK _ _ ?_; clear hK K))
                  (try simp only [Act.put, List.setIfInBounds_toArray, List.set_cons_zero, List.set_cons_succ])
                  refine wpAny_ready (rs := [12]) (by kernel_rfl) (by simp) ?_
                  refine AllReady.cons rfl (fun K hK => ?_) ?_
                  · go_simp
                    (try (refine hK _ _ ?_; clear hK K))
                    (try simp only [Act.put, List.setIfInBounds_toArray, List.set_cons_zero, List.set_cons_succ])
                    refine wpAny_ready (rs := [13]) (by kernel_rfl) (by simp) ?_
                    refine AllReady.cons rfl (fun K hK => ?_) ?_
                    · (refine step_append_sl rfl (.tmp 63) (.tmp 71) 54 rfl 0 68 .nilFunc 1 8 Try.underlying54 Try.info_look rfl (by decide) _ k us2 (own_chg hG.out.2.1 (hCr.out.alloc _) (by simp)) rfl _ 1 [.func uf #[] ucs] (sl_wide_new w3 [.func uf #[] ucs] 68 1 rfl) rfl (by intro v hv; simp at hv; subst hv; exact hu1) (k + 1) rfl (by omega) (by decide) (Nat.zero_le _) ?_; intro A' c' w5 hO' hCh hat; obtain ⟨y1, y2, y3⟩ := rs_step hG.out hx.out (hCr.out.alloc _) (hLk.out.chg ((Chg.refl [] w3).alloc _) (by simp)) hsb.out (by simp) hs3.out hg1.out hb1.out ngb.out hO' hCh hat; replace y3 := Lib.hid y3; clear hO' hCh hat; refine hK _ _ ?_; clear hK K)
                      (try simp only [Act.put, List.setIfInBounds_toArray, List.set_cons_zero, List.set_cons_succ])
                      refine wpAny_take (i := 14) (v := ?_) rfl (by kernel_rfl) (by kernel_rfl) (by kernel_rfl) (fun _ _ _ h => h) (Or.inl ⟨by kernel_rfl, ?_⟩) ?_
                      rotate_left
                      · (intro w; go_simp; try with_reducible rfl)
                      change wpAny _ _ _ _ _ _ (Act.put _ (some 73) _) _
                      (try simp only [Act.put, List.setIfInBounds_toArray, List.set_cons_zero, List.set_cons_succ])
                      refine wpAny_take (i := 15) (v := ?_) rfl (by kernel_rfl) (by kernel_rfl) (by kernel_rfl) (fun _ _ _ h => h) (Or.inl ⟨by kernel_rfl, ?_⟩) ?_
                      rotate_left
                      · (intro w; go_simp; try with_reducible rfl)
                      change wpAny _ _ _ _ _ _ (Act.put _ (some 74) _) _
                      (try simp only [Act.put, List.setIfInBounds_toArray, List.set_cons_zero, List.set_cons_succ])
                      refine wpAny_ready (rs := [16]) (by kernel_rfl) (by simp) ?_
                      refine AllReady.cons rfl (fun K hK => ?_) ?_
                      · go_simp
                        (try (refine hK _ _ ?_; clear hK K))
                        (try simp only [Act.put, List.setIfInBounds_toArray, List.set_cons_zero, List.set_cons_succ])
                        refine wpAny_done (by kernel_rfl) ?_ _
                        (try simp only [Act.put, List.setIfInBounds_toArray, List.set_cons_zero, List.set_cons_succ])
                        go_wp2_with fail
                        go_roundw
                        case rel => exact ⟨k + 1, A', c', by go_num, by omega, y3⟩
                        case measure => simp [intOf]; omega
                      exact AllReady.nil
                    exact AllReady.nil
                  exact AllReady.nil
                exact AllReady.nil
              exact AllReady.nil
            exact AllReady.nil
          refine AllReady.cons rfl (fun K hK => ?_) ?_
          · go_simp
            (try (refine hK _ _ ?_; clear hK K))
            (try simp only [Act.put, List.setIfInBounds_toArray, List.set_cons_zero, List.set_cons_succ])
            refine wpAny_ready (rs := [4, 10]) (by kernel_rfl) (by simp) ?_
            refine AllReady.cons rfl (fun K hK => ?_) ?_
            · go_simp
              (try (refine hK _ _ ?_; clear hK K))
              (try simp only [Act.put, List.setIfInBounds_toArray, List.set_cons_zero, List.set_cons_succ])
              refine wpAny_ready (rs := [10]) (by kernel_rfl) (by simp) ?_
              refine AllReady.cons rfl (fun K hK => ?_) ?_
              · go_simp
                (try (refine hK _ _ ?_; clear hK K))
                (try simp only [Act.put, List.setIfInBounds_toArray, List.set_cons_zero, List.set_cons_succ])
                refine wpAny_ready (rs := [11]) (by kernel_rfl) (by simp) ?_
                refine AllReady.cons rfl (fun K hK => ?_) ?_
                · go_simp
                  go_wp2_with (first
                      | (refine (hmk.out _).mono ?_; rintro e w3 ⟨u, rfl, hLk, hC3⟩; obtain ⟨uf, ucs, rfl⟩ := hLk.form; have hCr := Lib.hid ((hCb.out.drew).trans hC3); have d2 := hCr.out.cell c2c (by simp); have d2a := (fun o : Obj => ((Chg.refl [] w3).alloc o).cell d2 (by simp)); have hu1 := hLk.one; have hsb := Lib.hid (hCb.out.size); have hs3 := Lib.hid hC3.size; replace hLk := Lib.hid hLk; clear hC3))
                  (try (refine hK _ _ ?_; clear hK K))
                  (try simp only [Act.put, List.setIfInBounds_toArray, List.set_cons_zero, List.set_cons_succ])
                  refine wpAny_ready (rs := [12]) (by kernel_rfl) (by simp) ?_
                  refine AllReady.cons rfl (fun K hK => ?_) ?_
                  · go_simp
                    (try (refine hK _ _ ?_; clear hK K))
                    (try simp only [Act.put, List.setIfInBounds_toArray, List.set_cons_zero, List.set_cons_succ])
                    refine wpAny_ready (rs := [13]) (by kernel_rfl) (by simp) ?_
                    refine AllReady.cons rfl (fun K hK => ?_) ?_
                    · (refine step_append_sl rfl (.tmp 63) (.tmp 71) 54 rfl 0 68 .nilFunc 1 8 Try.underlying54 Try.info_look rfl (by decide) _ k us2 (own_chg hG.out.2.1 (hCr.out.alloc _) (by simp)) rfl _ 1 [.func uf #[] ucs] (sl_wide_new w3 [.func uf #[] ucs] 68 1 rfl) rfl (by intro v hv; simp at hv; subst hv; exact hu1) (k + 1) rfl (by omega) (by decide) (Nat.zero_le _) ?_; intro A' c' w5 hO' hCh hat; obtain ⟨y1, y2, y3⟩ := rs_step hG.out hx.out (hCr.out.alloc _) (hLk.out.chg ((Chg.refl [] w3).alloc _) (by simp)) hsb.out (by simp) hs3.out hg1.out hb1.out ngb.out hO' hCh hat; replace y3 := Lib.hid y3; clear hO' hCh hat; refine hK _ _ ?_; clear hK K)
                      (try simp only [Act.put, List.setIfInBounds_toArray, List.set_cons_zero, List.set_cons_succ])
                      refine wpAny_take (i := 14) (v := ?_) rfl (by kernel_rfl) (by kernel_rfl) (by kernel_rfl) (fun _ _ _ h => h) (Or.inl ⟨by kernel_rfl, ?_⟩) ?_
                      rotate_left
                      · (intro w; go_simp; try with_reducible rfl)
                      change wpAny _ _ _ _ _ _ (Act.put _ (some 73) _) _
                      (try simp only [Act.put, List.setIfInBounds_toArray, List.set_cons_zero, List.set_cons_succ])
                      refine wpAny_take (i := 15) (v := ?_) rfl (by kernel_rfl) (by kernel_rfl) (by kernel_rfl) (fun _ _ _ h => h) (Or.inl ⟨by kernel_rfl, ?_⟩) ?_
                      rotate_left
                      · (intro w; go_simp; try with_reducible rfl)
                      change wpAny _ _ _ _ _ _ (Act.put _ (some 74) _) _
                      (try simp only [Act.put, List.setIfInBounds_toArray, List.set_cons_zero, List.set_cons_succ])
                      refine wpAny_ready (rs := [16]) (by kernel_rfl) (by simp) ?_
                      refine AllReady.cons rfl (fun K hK => ?_) ?_
                      · go_simp
                        (try (refine hK _ _ ?_; clear hK K))
                        (try simp only [Act.put, List.setIfInBounds_toArray, List.set_cons_zero, List.set_cons_succ])
                        refine wpAny_done (by kernel_rfl) ?_ _
                        (try simp only [Act.put, List.setIfInBounds_toArray, List.set_cons_zero, List.set_cons_succ])
                        go_wp2_with fail
                        go_roundw
                        case rel => exact ⟨k + 1, A', c', by go_num, by omega, y3⟩
                        case measure => simp [intOf]; omega
                      exact AllReady.nil
                    exact AllReady.nil
                  exact AllReady.nil
                exact AllReady.nil
              exact AllReady.nil
            refine AllReady.cons rfl (fun K hK => ?_) ?_
            · go_simp
              (try (refine hK _ _ ?_; clear hK K))
              (try simp only [Act.put, List.setIfInBounds_toArray, List.set_cons_zero, List.set_cons_succ])
              refine wpAny_ready (rs := [4, 11]) (by kernel_rfl) (by simp) ?_
              refine AllReady.cons rfl (fun K hK => ?_) ?_
              · go_simp
                (try (refine hK _ _ ?_; clear hK K))
                (try simp only [Act.put, List.setIfInBounds_toArray, List.set_cons_zero, List.set_cons_succ])
                refine wpAny_ready (rs := [11]) (by kernel_rfl) (by simp) ?_
                refine AllReady.cons rfl (fun K hK => ?_) ?_
                · go_simp
                  go_wp2_with (first
                      | (refine (hmk.out _).mono ?_; rintro e w3 ⟨u, rfl, hLk, hC3⟩; obtain ⟨uf, ucs, rfl⟩ := hLk.form; have hCr := Lib.hid ((hCb.out.drew).trans hC3); have d2 := hCr.out.cell c2c (by simp); have d2a := (fun o : Obj => ((Chg.refl [] w3).alloc o).cell d2 (by simp)); have hu1 := hLk.one; have hsb := Lib.hid (hCb.out.size); have hs3 := Lib.hid hC3.size; replace hLk := Lib.hid hLk; clear hC3))
                  (try (refine hK _ _ ?_; clear hK K))
                  (try simp only [Act.put, List.setIfInBounds_toArray, List.set_cons_zero, List.set_cons_succ])
                  refine wpAny_ready (rs := [12]) (by kernel_rfl) (by simp) ?_
                  refine AllReady.cons rfl (fun K hK => ?_) ?_
                  · go_simp
                    (try (refine hK _ _ ?_; clear hK K))
                    (try simp only [Act.put, List.setIfInBounds_toArray, List.set_cons_zero, List.set_cons_succ])
                    refine wpAny_ready (rs := [13]) (by kernel_rfl) (by simp) ?_
                    refine AllReady.cons rfl (fun K hK => ?_) ?_
                    · (refine step_append_sl rfl (.tmp 63) (.tmp 71) 54 rfl 0 68 .nilFunc 1 8 Try.underlying54 Try.info_look rfl (by decide) _ k us2 (own_chg hG.out.2.1 (hCr.out.alloc _) (by simp)) rfl _ 1 [.func uf #[] ucs] (sl_wide_new w3 [.func uf #[] ucs] 68 1 rfl) rfl (by intro v hv; simp at hv; subst hv; exact hu1) (k + 1) rfl (by omega) (by decide) (Nat.zero_le _) ?_; intro A' c' w5 hO' hCh hat; obtain ⟨y1, y2, y3⟩ := rs_step hG.out hx.out (hCr.out.alloc _) (hLk.out.chg ((Chg.refl [] w3).alloc _) (by simp)) hsb.out (by simp) hs3.out hg1.out hb1.out ngb.out hO' hCh hat; replace y3 := Lib.hid y3; clear hO' hCh hat; refine hK _ _ ?_; clear hK K)
                      (try simp only [Act.put, List.setIfInBounds_toArray, List.set_cons_zero, List.set_cons_succ])
                      refine wpAny_take (i := 14) (v := ?_) rfl (by kernel_rfl) (by kernel_rfl) (by kernel_rfl) (fun _ _ _ h => h) (Or.inl ⟨by kernel_rfl, ?_⟩) ?_
                      rotate_left
                      · (intro w; go_simp; try with_reducible rfl)
                      change wpAny _ _ _ _ _ _ (Act.put _ (some 73) _) _
                      (try simp only [Act.put, List.setIfInBounds_toArray, List.set_cons_zero, List.set_cons_succ])
                      refine wpAny_take (i := 15) (v := ?_) rfl (by kernel_rfl) (by kernel_rfl) (by kernel_rfl) (fun _ _ _ h => h) (Or.inl ⟨by kernel_rfl, ?_⟩) ?_
                      rotate_left
                      · (intro w; go_simp; try with_reducible rfl)
                      change wpAny _ _ _ _ _ _ (Act.put _ (some 74) _) _
                      (try simp only [Act.put, List.setIfInBounds_toArray, List.set_cons_zero, List.set_cons_succ])
                      refine wpAny_ready (rs := [16]) (by kernel_rfl) (by simp) ?_
                      refine AllReady.cons rfl (fun K hK => ?_) ?_
                      · go_simp
                        (try (refine hK _ _ ?_; clear hK K))
                        (try simp only [Act.put, List.setIfInBounds_toArray, List.set_cons_zero, List.set_cons_succ])
                        refine wpAny_done (by kernel_rfl) ?_ _
                        (try simp only [Act.put, List.setIfInBounds_toArray, List.set_cons_zero, List.set_cons_succ])
                        go_wp2_with fail
                        go_roundw
                        case rel => exact ⟨k + 1, A', c', by go_num, by omega, y3⟩
                        case measure => simp [intOf]; omega
                      exact AllReady.nil
                    exact AllReady.nil
                  exact AllReady.nil
                exact AllReady.nil
              refine AllReady.cons rfl (fun K hK => ?_) ?_
              · go_simp
                go_wp2_with (first
                    | (refine (hmk.out _).mono ?_; rintro e w3 ⟨u, rfl, hLk, hC3⟩; obtain ⟨uf, ucs, rfl⟩ := hLk.form; have hCr := Lib.hid ((hCb.out.drew).trans hC3); have d2 := hCr.out.cell c2c (by simp); have d2a := (fun o : Obj => ((Chg.refl [] w3).alloc o).cell d2 (by simp)); have hu1 := hLk.one; have hsb := Lib.hid (hCb.out.size); have hs3 := Lib.hid hC3.size; replace hLk := Lib.hid hLk; clear hC3))
                (try (refine hK _ _ ?_; clear hK K))
                (try simp only [Act.put, List.setIfInBounds_toArray, List.set_cons_zero, List.set_cons_succ])
                refine wpAny_ready (rs := [4, 12]) (by kernel_rfl) (by simp) ?_
                refine AllReady.cons rfl (fun K hK => ?_) ?_
                · go_simp
                  (try (refine hK _ _ ?_; clear hK K))
                  (try simp only [Act.put, List.setIfInBounds_toArray, List.set_cons_zero, List.set_cons_succ])
                  refine wpAny_ready (rs := [12]) (by kernel_rfl) (by simp) ?_
                  refine AllReady.cons rfl (fun K hK => ?_) ?_
                  · go_simp
                    (try (refine hK _ _ ?_; clear hK K))
                    (try simp only [Act.put, List.setIfInBounds_toArray, List.set_cons_zero, List.set_cons_succ])
                    refine wpAny_ready (rs := [13]) (by kernel_rfl) (by simp) ?_
                    refine AllReady.cons rfl (fun K hK => ?_) ?_
                    · (refine step_append_sl rfl (.tmp 63) (.tmp 71) 54 rfl 0 68 .nilFunc 1 8 Try.underlying54 Try.info_look rfl (by decide) _ k us2 (own_chg hG.out.2.1 (hCr.out.alloc _) (by simp)) rfl _ 1 [.func uf #[] ucs] (sl_wide_new w3 [.func uf #[] ucs] 68 1 rfl) rfl (by intro v hv; simp at hv; subst hv; exact hu1) (k + 1) rfl (by omega) (by decide) (Nat.zero_le _) ?_; intro A' c' w5 hO' hCh hat; obtain ⟨y1, y2, y3⟩ := rs_step hG.out hx.out (hCr.out.alloc _) (hLk.out.chg ((Chg.refl [] w3).alloc _) (by simp)) hsb.out (by simp) hs3.out hg1.out hb1.out ngb.out hO' hCh hat; replace y3 := Lib.hid y3; clear hO' hCh hat; refine hK _ _ ?_; clear hK K)
                      (try simp only [Act.put, List.setIfInBounds_toArray, List.set_cons_zero, List.set_cons_succ])
                      refine wpAny_take (i := 14) (v := ?_) rfl (by kernel_rfl) (by kernel_rfl) (by kernel_rfl) (fun _ _ _ h => h) (Or.inl ⟨by kernel_rfl, ?_⟩) ?_
                      rotate_left
                      · (intro w; go_simp; try with_reducible rfl)
                      change wpAny _ _ _ _ _ _ (Act.put _ (some 73) _) _
                      (try simp only [Act.put, List.setIfInBounds_toArray, List.set_cons_zero, List.set_cons_succ])
                      refine wpAny_take (i := 15) (v := ?_) rfl (by kernel_rfl) (by kernel_rfl) (by kernel_rfl) (fun _ _ _ h => h) (Or.inl ⟨by kernel_rfl, ?_⟩) ?_
                      rotate_left
                      · (intro w; go_simp; try with_reducible rfl)
                      change wpAny _ _ _ _ _ _ (Act.put _ (some 74) _) _
                      (try simp only [Act.put, List.setIfInBounds_toArray, List.set_cons_zero, List.set_cons_succ])
                      refine wpAny_ready (rs := [16]) (by kernel_rfl) (by simp) ?_
                      refine AllReady.cons rfl (fun K hK => ?_) ?_
                      · go_simp
                        (try (refine hK _ _ ?_; clear hK K))
                        (try simp only [Act.put, List.setIfInBounds_toArray, List.set_cons_zero, List.set_cons_succ])
                        refine wpAny_done (by kernel_rfl) ?_ _
                        (try simp only [Act.put, List.setIfInBounds_toArray, List.set_cons_zero, List.set_cons_succ])
                        go_wp2_with fail
                        go_roundw
                        case rel => exact ⟨k + 1, A', c', by go_num, by omega, y3⟩
                        case measure => simp [intOf]; omega
                      exact AllReady.nil
                    exact AllReady.nil
                  exact AllReady.nil
                refine AllReady.cons rfl (fun K hK => ?_) ?_
                · go_simp
                  (try (refine hK _ _ ?_; clear hK K))
                  (try simp only [Act.put, List.setIfInBounds_toArray, List.set_cons_zero, List.set_cons_succ])
                  refine wpAny_ready (rs := [4]) (by kernel_rfl) (by simp) ?_
                  refine AllReady.cons rfl (fun K hK => ?_) ?_
                  · go_simp
                    (try (refine hK _ _ ?_; clear hK K))
                    (try simp only [Act.put, List.setIfInBounds_toArray, List.set_cons_zero, List.set_cons_succ])
                    refine wpAny_ready (rs := [13]) (by kernel_rfl) (by simp) ?_
                    refine AllReady.cons rfl (fun K hK => ?_) ?_
                    · (refine step_append_sl rfl (.tmp 63) (.tmp 71) 54 rfl 0 68 .nilFunc 1 8 Try.underlying54 Try.info_look rfl (by decide) _ k us2 (own_chg hG.out.2.1 (hCr.out.alloc _) (by simp)) rfl _ 1 [.func uf #[] ucs] (sl_wide_new w3 [.func uf #[] ucs] 68 1 rfl) rfl (by intro v hv; simp at hv; subst hv; exact hu1) (k + 1) rfl (by omega) (by decide) (Nat.zero_le _) ?_; intro A' c' w5 hO' hCh hat; obtain ⟨y1, y2, y3⟩ := rs_step hG.out hx.out (hCr.out.alloc _) (hLk.out.chg ((Chg.refl [] w3).alloc _) (by simp)) hsb.out (by simp) hs3.out hg1.out hb1.out ngb.out hO' hCh hat; replace y3 := Lib.hid y3; clear hO' hCh hat; refine hK _ _ ?_; clear hK K)
                      (try simp only [Act.put, List.setIfInBounds_toArray, List.set_cons_zero, List.set_cons_succ])
                      refine wpAny_take (i := 14) (v := ?_) rfl (by kernel_rfl) (by kernel_rfl) (by kernel_rfl) (fun _ _ _ h => h) (Or.inl ⟨by kernel_rfl, ?_⟩) ?_
                      rotate_left
                      · (intro w; go_simp; try with_reducible rfl)
                      change wpAny _ _ _ _ _ _ (Act.put _ (some 73) _) _
                      (try simp only [Act.put, List.setIfInBounds_toArray, List.set_cons_zero, List.set_cons_succ])
                      refine wpAny_take (i := 15) (v := ?_) rfl (by kernel_rfl) (by kernel_rfl) (by kernel_rfl) (fun _ _ _ h => h) (Or.inl ⟨by kernel_rfl, ?_⟩) ?_
                      rotate_left
                      · (intro w; go_simp; try with_reducible rfl)
                      change wpAny _ _ _ _ _ _ (Act.put _ (some 74) _) _
                      (try simp only [Act.put, List.setIfInBounds_toArray, List.set_cons_zero, List.set_cons_succ])
                      refine wpAny_ready (rs := [16]) (by kernel_rfl) (by simp) ?_
                      refine AllReady.cons rfl (fun K hK => ?_) ?_
                      · go_simp
                        (try (refine hK _ _ ?_; clear hK K))
                        (try simp only [Act.put, List.setIfInBounds_toArray, List.set_cons_zero, List.set_cons_succ])
                        refine wpAny_done (by kernel_rfl) ?_ _
                        (try simp only [Act.put, List.setIfInBounds_toArray, List.set_cons_zero, List.set_cons_succ])
                        go_wp2_with fail
                        go_roundw
                        case rel => exact ⟨k + 1, A', c', by go_num, by omega, y3⟩
                        case measure => simp [intOf]; omega
                      exact AllReady.nil
                    exact AllReady.nil
                  exact AllReady.nil
                exact AllReady.nil
              exact AllReady.nil
            exact AllReady.nil
          refine AllReady.cons rfl (fun K hK => ?_) ?_
          · go_simp
            (try (refine hK _ _ ?_; clear hK K))
            (try simp only [Act.put, List.setIfInBounds_toArray, List.set_cons_zero, List.set_cons_succ])
            refine wpAny_ready (rs := [4, 6]) (by kernel_rfl) (by simp) ?_
            refine AllReady.cons rfl (fun K hK => ?_) ?_
            · go_simp
              (try (refine hK _ _ ?_; clear hK K))
              (try simp only [Act.put, List.setIfInBounds_toArray, List.set_cons_zero, List.set_cons_succ])
              refine wpAny_ready (rs := [6]) (by kernel_rfl) (by simp) ?_
              refine AllReady.cons rfl (fun K hK => ?_) ?_
              · go_simp
                (try (refine hK _ _ ?_; clear hK K))
                (try simp only [Act.put, List.setIfInBounds_toArray, List.set_cons_zero, List.set_cons_succ])
                refine wpAny_ready (rs := [11]) (by kernel_rfl) (by simp) ?_
                refine AllReady.cons rfl (fun K hK => ?_) ?_
                · go_simp
                  go_wp2_with (first
                      | (refine (hmk.out _).mono ?_; rintro e w3 ⟨u, rfl, hLk, hC3⟩; obtain ⟨uf, ucs, rfl⟩ := hLk.form; have hCr := Lib.hid ((hCb.out.drew).trans hC3); have d2 := hCr.out.cell c2c (by simp); have d2a := (fun o : Obj => ((Chg.refl [] w3).alloc o).cell d2 (by simp)); have hu1 := hLk.one; have hsb := Lib.hid (hCb.out.size); have hs3 := Lib.hid hC3.size; replace hLk := Lib.hid hLk; clear hC3))
                  (try (refine hK _ _ ?_; clear hK K))
                  (try simp only [Act.put, List.setIfInBounds_toArray, List.set_cons_zero, List.set_cons_succ])
                  refine wpAny_ready (rs := [12]) (by kernel_rfl) (by simp) ?_
                  refine AllReady.cons rfl (fun K hK => ?_) ?_
                  · go_simp
                    (try (refine hK _ _ ?_; clear hK K))
                    (try simp only [Act.put, List.setIfInBounds_toArray, List.set_cons_zero, List.set_cons_succ])
                    refine wpAny_ready (rs := [13]) (by kernel_rfl) (by simp) ?_
                    refine AllReady.cons rfl (fun K hK => ?_) ?_
                    · (refine step_append_sl rfl (.tmp 63) (.tmp 71) 54 rfl 0 68 .nilFunc 1 8 Try.underlying54 Try.info_look rfl (by decide) _ k us2 (own_chg hG.out.2.1 (hCr.out.alloc _) (by simp)) rfl _ 1 [.func uf #[] ucs] (sl_wide_new w3 [.func uf #[] ucs] 68 1 rfl) rfl (by intro v hv; simp at hv; subst hv; exact hu1) (k + 1) rfl (by omega) (by decide) (Nat.zero_le _) ?_; intro A' c' w5 hO' hCh hat; obtain ⟨y1, y2, y3⟩ := rs_step hG.out hx.out (hCr.out.alloc _) (hLk.out.chg ((Chg.refl [] w3).alloc _) (by simp)) hsb.out (by simp) hs3.out hg1.out hb1.out ngb.out hO' hCh hat; replace y3 := Lib.hid y3; clear hO' hCh hat; refine hK _ _ ?_; clear hK K)
                      (try simp only [Act.put, List.setIfInBounds_toArray, List.set_cons_zero, List.set_cons_succ])
                      refine wpAny_take (i := 14) (v := ?_) rfl (by kernel_rfl) (by kernel_rfl) (by kernel_rfl) (fun _ _ _ h => h) (Or.inl ⟨by kernel_rfl, ?_⟩) ?_
                      rotate_left
                      · (intro w; go_simp; try with_reducible rfl)
                      change wpAny _ _ _ _ _ _ (Act.put _ (some 73) _) _
                      (try simp only [Act.put, List.setIfInBounds_toArray, List.set_cons_zero, List.set_cons_succ])
                      refine wpAny_take (i := 15) (v := ?_) rfl (by kernel_rfl) (by kernel_rfl) (by kernel_rfl) (fun _ _ _ h => h) (Or.inl ⟨by kernel_rfl, ?_⟩) ?_
                      rotate_left
                      · (intro w; go_simp; try with_reducible rfl)
                      change wpAny _ _ _ _ _ _ (Act.put _ (some 74) _) _
                      (try simp only [Act.put, List.setIfInBounds_toArray, List.set_cons_zero, List.set_cons_succ])
                      refine wpAny_ready (rs := [16]) (by kernel_rfl) (by simp) ?_
                      refine AllReady.cons rfl (fun K hK => ?_) ?_
                      · go_simp
                        (try (refine hK _ _ ?_; clear hK K))
                        (try simp only [Act.put, List.setIfInBounds_toArray, List.set_cons_zero, List.set_cons_succ])
                        refine wpAny_done (by kernel_rfl) ?_ _
                        (try simp only [Act.put, List.setIfInBounds_toArray, List.set_cons_zero, List.set_cons_succ])
                        go_wp2_with fail
                        go_roundw
                        case rel => exact ⟨k + 1, A', c', by go_num, by omega, y3⟩
                        case measure => simp [intOf]; omega
                      exact AllReady.nil
                    exact AllReady.nil
                  exact AllReady.nil
                exact AllReady.nil
              exact AllReady.nil
            refine AllReady.cons rfl (fun K hK => ?_) ?_
            · go_simp
              (try (refine hK _ _ ?_; clear hK K))
              (try simp only [Act.put, List.setIfInBounds_toArray, List.set_cons_zero, List.set_cons_succ])
              refine wpAny_ready (rs := [4, 11]) (by kernel_rfl) (by simp) ?_
              refine AllReady.cons rfl (fun K hK => ?_) ?_
              · go_simp
                (try (refine hK _ _ ?_; clear hK K))
                (try simp only [Act.put, List.setIfInBounds_toArray, List.set_cons_zero, List.set_cons_succ])
                refine wpAny_ready (rs := [11]) (by kernel_rfl) (by simp) ?_
                refine AllReady.cons rfl (fun K hK => ?_) ?_
                · go_simp
                  go_wp2_with (first
                      | (refine (hmk.out _).mono ?_; rintro e w3 ⟨u, rfl, hLk, hC3⟩; obtain ⟨uf, ucs, rfl⟩ := hLk.form; have hCr := Lib.hid ((hCb.out.drew).trans hC3); have d2 := hCr.out.cell c2c (by simp); have d2a := (fun o : Obj => ((Chg.refl [] w3).alloc o).cell d2 (by simp)); have hu1 := hLk.one; have hsb := Lib.hid (hCb.out.size); have hs3 := Lib.hid hC3.size; replace hLk := Lib.hid hLk; clear hC3))
                  (try (refine hK _ _ ?_; clear hK K))
                  (try simp only [Act.put, List.setIfInBounds_toArray, List.set_cons_zero, List.set_cons_succ])
                  refine wpAny_ready (rs := [12]) (by kernel_rfl) (by simp) ?_
                  refine AllReady.cons rfl (fun K hK => ?_) ?_
                  · go_simp
                    (try (refine hK _ _ ?_; clear hK K))
                    (try simp only [Act.put, List.setIfInBounds_toArray, List.set_cons_zero, List.set_cons_succ])
                    refine wpAny_ready (rs := [13]) (by kernel_rfl) (by simp) ?_
                    refine AllReady.cons rfl (fun K hK => ?_) ?_
                    · (refine step_append_sl rfl (.tmp 63) (.tmp 71) 54 rfl 0 68 .nilFunc 1 8 Try.underlying54 Try.info_look rfl (by decide) _ k us2 (own_chg hG.out.2.1 (hCr.out.alloc _) (by simp)) rfl _ 1 [.func uf #[] ucs] (sl_wide_new w3 [.func uf #[] ucs] 68 1 rfl) rfl (by intro v hv; simp at hv; subst hv; exact hu1) (k + 1) rfl (by omega) (by decide) (Nat.zero_le _) ?_; intro A' c' w5 hO' hCh hat; obtain ⟨y1, y2, y3⟩ := rs_step hG.out hx.out (hCr.out.alloc _) (hLk.out.chg ((Chg.refl [] w3).alloc _) (by simp)) hsb.out (by simp) hs3.out hg1.out hb1.out ngb.out hO' hCh hat; replace y3 := Lib.hid y3; clear hO' hCh hat; refine hK _ _ ?_; clear hK K)
                      (try simp only [Act.put, List.setIfInBounds_toArray, List.set_cons_zero, List.set_cons_succ])
                      refine wpAny_take (i := 14) (v := ?_) rfl (by kernel_rfl) (by kernel_rfl) (by kernel_rfl) (fun _ _ _ h => h) (Or.inl ⟨by kernel_rfl, ?_⟩) ?_
                      rotate_left
                      · (intro w; go_simp; try with_reducible rfl)
                      change wpAny _ _ _ _ _ _ (Act.put _ (some 73) _) _
                      (try simp only [Act.put, List.setIfInBounds_toArray, List.set_cons_zero, List.set_cons_succ])
                      refine wpAny_take (i := 15) (v := ?_) rfl (by kernel_rfl) (by kernel_rfl) (by kernel_rfl) (fun _ _ _ h => h) (Or.inl ⟨by kernel_rfl, ?_⟩) ?_
                      rotate_left
                      · (intro w; go_simp; try with_reducible rfl)
                      change wpAny _ _ _ _ _ _ (Act.put _ (some 74) _) _
                      (try simp only [Act.put, List.setIfInBounds_toArray, List.set_cons_zero, List.set_cons_succ])
                      refine wpAny_ready (rs := [16]) (by kernel_rfl) (by simp) ?_
                      refine AllReady.cons rfl (fun K hK => ?_) ?_
                      · go_simp
                        (try (refine hK _ _ ?_; clear hK K))
                        (try simp only [Act.put, List.setIfInBounds_toArray, List.set_cons_zero, List.set_cons_succ])
                        refine wpAny_done (by kernel_rfl) ?_ _
                        (try simp only [Act.put, List.setIfInBounds_toArray, List.set_cons_zero, List.set_cons_succ])
                        go_wp2_with fail
                        go_roundw
                        case rel => exact ⟨k + 1, A', c', by go_num, by omega, y3⟩
                        case measure => simp [intOf]; omega
                      exact AllReady.nil
                    exact AllReady.nil
                  exact AllReady.nil
                exact AllReady.nil
              refine AllReady.cons rfl (fun K hK => ?_) ?_
              · go_simp
                go_wp2_with (first
                    | (refine (hmk.out _).mono ?_; rintro e w3 ⟨u, rfl, hLk, hC3⟩; obtain ⟨uf, ucs, rfl⟩ := hLk.form; have hCr := Lib.hid ((hCb.out.drew).trans hC3); have d2 := hCr.out.cell c2c (by simp); have d2a := (fun o : Obj => ((Chg.refl [] w3).alloc o).cell d2 (by simp)); have hu1 := hLk.one; have hsb := Lib.hid (hCb.out.size); have hs3 := Lib.hid hC3.size; replace hLk := Lib.hid hLk; clear hC3))
                (try (refine hK _ _ ?_; clear hK K))
                (try simp only [Act.put, List.setIfInBounds_toArray, List.set_cons_zero, List.set_cons_succ])
                refine wpAny_ready (rs := [4, 12]) (by kernel_rfl) (by simp) ?_
                refine AllReady.cons rfl (fun K hK => ?_) ?_
                · go_simp
                  (try (refine hK _ _ ?_; clear hK K))
                  (try simp only [Act.put, List.setIfInBounds_toArray, List.set_cons_zero, List.set_cons_succ])
                  refine wpAny_ready (rs := [12]) (by kernel_rfl) (by simp) ?_
                  refine AllReady.cons rfl (fun K hK => ?_) ?_
                  · go_simp
                    (try (refine hK _ _ ?_; clear hK K))
                    (try simp only [Act.put, List.setIfInBounds_toArray, List.set_cons_zero, List.set_cons_succ])
                    refine wpAny_ready (rs := [13]) (by kernel_rfl) (by simp) ?_
                    refine AllReady.cons rfl (fun K hK => ?_) ?_
                    · (refine step_append_sl rfl (.tmp 63) (.tmp 71) 54 rfl 0 68 .nilFunc 1 8 Try.underlying54 Try.info_look rfl (by decide) _ k us2 (own_chg hG.out.2.1 (hCr.out.alloc _) (by simp)) rfl _ 1 [.func uf #[] ucs] (sl_wide_new w3 [.func uf #[] ucs] 68 1 rfl) rfl (by intro v hv; simp at hv; subst hv; exact hu1) (k + 1) rfl (by omega) (by decide) (Nat.zero_le _) ?_; intro A' c' w5 hO' hCh hat; obtain ⟨y1, y2, y3⟩ := rs_step hG.out hx.out (hCr.out.alloc _) (hLk.out.chg ((Chg.refl [] w3).alloc _) (by simp)) hsb.out (by simp) hs3.out hg1.out hb1.out ngb.out hO' hCh hat; replace y3 := Lib.hid y3; clear hO' hCh hat; refine hK _ _ ?_; clear hK K)
                      (try simp only [Act.put, List.setIfInBounds_toArray, List.set_cons_zero, List.set_cons_succ])
                      refine wpAny_take (i := 14) (v := ?_) rfl (by kernel_rfl) (by kernel_rfl) (by kernel_rfl) (fun _ _ _ h => h) (Or.inl ⟨by kernel_rfl, ?_⟩) ?_
                      rotate_left
                      · (intro w; go_simp; try with_reducible rfl)
                      change wpAny _ _ _ _ _ _ (Act.put _ (some 73) _) _
                      (try simp only [Act.put, List.setIfInBounds_toArray, List.set_cons_zero, List.set_cons_succ])
                      refine wpAny_take (i := 15) (v := ?_) rfl (by kernel_rfl) (by kernel_rfl) (by kernel_rfl) (fun _ _ _ h => h) (Or.inl ⟨by kernel_rfl, ?_⟩) ?_
                      rotate_left
                      · (intro w; go_simp; try with_reducible rfl)
                      change wpAny _ _ _ _ _ _ (Act.put _ (some 74) _) _
                      (try simp only [Act.put, List.setIfInBounds_toArray, List.set_cons_zero, List.set_cons_succ])
                      refine wpAny_ready (rs := [16]) (by kernel_rfl) (by simp) ?_
                      refine AllReady.cons rfl (fun K hK => ?_) ?_
                      · go_simp
                        (try (refine hK _ _ ?_; clear hK K))
                        (try simp only [Act.put, List.setIfInBounds_toArray, List.set_cons_zero, List.set_cons_succ])
                        refine wpAny_done (by kernel_rfl) ?_ _
                        (try simp only [Act.put, List.setIfInBounds_toArray, List.set_cons_zero, List.set_cons_succ])
                        go_wp2_with fail
                        go_roundw
                        case rel => exact ⟨k + 1, A', c', by go_num, by omega, y3⟩
                        case measure => simp [intOf]; omega
                      exact AllReady.nil
                    exact AllReady.nil
                  exact AllReady.nil
                refine AllReady.cons rfl (fun K hK => ?_) ?_
                · go_simp
                  (try (refine hK _ _ ?_; clear hK K))
                  (try simp only [Act.put, List.setIfInBounds_toArray, List.set_cons_zero, List.set_cons_succ])
                  refine wpAny_ready (rs := [4]) (by kernel_rfl) (by simp) ?_
                  refine AllReady.cons rfl (fun K hK => ?_) ?_
                  · go_simp
                    (try (refine hK _ _ ?_; clear hK K))
                    (try simp only [Act.put, List.setIfInBounds_toArray, List.set_cons_zero, List.set_cons_succ])
                    refine wpAny_ready (rs := [13]) (by kernel_rfl) (by simp) ?_
                    refine AllReady.cons rfl (fun K hK => ?_) ?_
                    · (refine step_append_sl rfl (.tmp 63) (.tmp 71) 54 rfl 0 68 .nilFunc 1 8 Try.underlying54 Try.info_look rfl (by decide) _ k us2 (own_chg hG.out.2.1 (hCr.out.alloc _) (by simp)) rfl _ 1 [.func uf #[] ucs] (sl_wide_new w3 [.func uf #[] ucs] 68 1 rfl) rfl (by intro v hv; simp at hv; subst hv; exact hu1) (k + 1) rfl (by omega) (by decide) (Nat.zero_le _) ?_; intro A' c' w5 hO' hCh hat; obtain ⟨y1, y2, y3⟩ := rs_step hG.out hx.out (hCr.out.alloc _) (hLk.out.chg ((Chg.refl [] w3).alloc _) (by simp)) hsb.out (by simp) hs3.out hg1.out hb1.out ngb.out hO' hCh hat; replace y3 := Lib.hid y3; clear hO' hCh hat; refine hK _ _ ?_; clear hK K)
                      (try simp only [Act.put, List.setIfInBounds_toArray, List.set_cons_zero, List.set_cons_succ])
                      refine wpAny_take (i := 14) (v := ?_) rfl (by kernel_rfl) (by kernel_rfl) (by kernel_rfl) (fun _ _ _ h => h) (Or.inl ⟨by kernel_rfl, ?_⟩) ?_
                      rotate_left
                      · (intro w; go_simp; try with_reducible rfl)
                      change wpAny _ _ _ _ _ _ (Act.put _ (some 73) _) _
                      (try simp only [Act.put, List.setIfInBounds_toArray, List.set_cons_zero, List.set_cons_succ])
                      refine wpAny_take (i := 15) (v := ?_) rfl (by kernel_rfl) (by kernel_rfl) (by kernel_rfl) (fun _ _ _ h => h) (Or.inl ⟨by kernel_rfl, ?_⟩) ?_
                      rotate_left
                      · (intro w; go_simp; try with_reducible rfl)
                      change wpAny _ _ _ _ _ _ (Act.put _ (some 74) _) _
                      (try simp only [Act.put, List.setIfInBounds_toArray, List.set_cons_zero, List.set_cons_succ])
                      refine wpAny_ready (rs := [16]) (by kernel_rfl) (by simp) ?_
                      refine AllReady.cons rfl (fun K hK => ?_) ?_
                      · go_simp
                        (try (refine hK _ _ ?_; clear hK K))
                        (try simp only [Act.put, List.setIfInBounds_toArray, List.set_cons_zero, List.set_cons_succ])
                        refine wpAny_done (by kernel_rfl) ?_ _
                        (try simp only [Act.put, List.setIfInBounds_toArray, List.set_cons_zero, List.set_cons_succ])
                        go_wp2_with fail
                        go_roundw
                        case rel => exact ⟨k + 1, A', c', by go_num, by omega, y3⟩
                        case measure => simp [intOf]; omega
                      exact AllReady.nil
                    exact AllReady.nil
                  exact AllReady.nil
                exact AllReady.nil
              exact AllReady.nil
            exact AllReady.nil
          exact AllReady.nil

        · have hd1 : (x.kind == 1) = false := by simpa using hz1
          have hCb := Lib.hid ((Chg.refl [] wr).alloc (.cells #[.int .i64 x.kind, .string (bs x.pat)] 45))
          have e2 := hCb.out.cell c2c (by simp)
          have hLk : LookAt (wr.alloc (.cells #[.int .i64 x.kind, .string (bs x.pat)] 45)) wr.heap.size wr.heap.size most x (.func (.func 32) #[] #[]) [] := .inr (.inr ⟨.inr ⟨hz0, hz1⟩, rfl⟩)
          replace hLk := Lib.hid hLk
          have hsn := sl_wide_new (wr.alloc (.cells #[.int .i64 x.kind, .string (bs x.pat)] 45)) [.func (.func 32) #[] #[]] 68 1 rfl
          rw [show (wr.alloc (.cells #[.int .i64 x.kind, .string (bs x.pat)] 45)).heap.size = wr.heap.size + 1 from Array.size_push ..] at hsn
          have hO4 := own_chg hG.out.2.1 (hCb.out.alloc (.cells [Value.func (.func 32) #[] #[]].toArray 68)) (by simp)
          replace hsn := Lib.hid hsn
          replace hO4 := Lib.hid hO4
          clear hk0 hk3 hkg hz0 hz1
          go_wp2_with (refine wpList_append_sl rfl (.tmp 34) (.tmp 35) 54 rfl 0 68 .nilFunc 1 8 Try.underlying54 Try.info_look rfl (by decide) _ k us2 rfl hO4.out _ 1 [.func (.func 32) #[] #[]] rfl hsn.out (by intro v hv; simp at hv; subst hv; rfl) (k + 1) rfl (by omega) (by decide) (Nat.zero_le _) ?_)
          intro A' c' w5 hO' hCh hat
          obtain ⟨y1, y2, y3⟩ := rs_step hG.out hx.out (hCb.out.alloc _) (hLk.out.chg ((Chg.refl [] _).alloc _) (by simp)) (Nat.le_refl _) (by simp; omega) (Nat.le_refl _) hg1.out hb1.out ngb.out hO' hCh (hat.imp id (fun h q hq => by have := h q hq; simp; omega))
          replace y3 := Lib.hid y3
          clear hO' hCh hat
          go_wp2_with fail
          go_roundw
          case rel => exact ⟨k + 1, A', c', by go_num, by omega, y3⟩
          case measure => simp [intOf]; omega
    · obtain rfl : k = l.length := by omega
      clear hlt
      obtain ⟨a1, a2, a3, a4, a5, a6⟩ := hG
      rw [List.take_length] at a3
      obtain ⟨q1, q2, q3, q4, q5, q6, -⟩ := Hs.out
      have hout : ∀ q, (q = gw ∨ r = some q) → q ∉ g :: b0.toList := fun q hq hm => by
        obtain ⟨A0, c0, x0, z, ho, hr, _⟩ := q3
        rcases List.mem_cons.1 hm with e | e
        · subst e
          rcases hq with e2 | e2
          · exact hggw.out e2
          · exact own_not' ho q1 (by decide) (hr.trans e2)
        · have e' : (Value.slice Al n cl).ownBlock = some q := by rw [← hbl0.out, ← hb0.out]; simpa using e
          rcases hq with e2 | e2
          · subst e2; exact own_not' q4 z (by decide) e'
          · exact own_types q4 ho (by decide) q e' (hr.trans e2)
      have z3 : Win wr gw r most 0 0 [] := hW1.out.chg a4 (hout gw (.inl rfl)) (fun q hq => hout q (.inr hq))
      have z2 := own_chg g2.out a4 (fun q hq hm => by
        rcases List.mem_cons.1 hm with e | e
        · subst e; exact own_not' g2.out g1.out (by decide) hq
        · exact own_types g2.out g4.out (by decide) q hq (by rw [← hb0.out]; simpa using e))
      have hfoot : ∀ q, Held g gw r (.slice Ab l.length cb) (.slice A2 l.length c2) I2 q → F q ∨ w.heap.size ≤ q := fun q hq => by
        rcases hq with e | e | e | e | e | ⟨p, hp, b1, b2⟩
        · exact .inl (q5 q (.inl e))
        · exact .inl (q5 q (.inr (.inl e)))
        · exact .inl (q5 q (.inr (.inr (.inl e))))
        · exact .inl (q5 q (.inr (.inr (.inr (.inl e)))))
        · rcases a5 with e2 | e2
          · left; refine q5 q (.inr (.inr (.inr (.inr ?_)))); rw [← hbl0.out, ← hb0.out, ← e2]; exact e
          · right; have := e2 q e; omega
        · right; have := (a6 p hp).1; omega
      have hend : RsEnd w F g l most (.returned (.tuple #[])) wr := by
        refine ⟨rfl, Held g gw r (.slice Ab l.length cb) (.slice A2 l.length c2) I2, ⟨Ab, cb, A2, c2, gw, r, 0, us2, I2, by rw [hgb.out]; exact a1, z2, ?_, a2, a3, fun q hq => hq, fun q hq => ?_, fun p hp q b1 b2 => ?_, by omega⟩, hfoot, gw :: (g :: b0.toList), ?_, fun q hq => ?_⟩
        · simpa [lastN, ns] using z3
        · have hsr := a4.size
          rcases hfoot q hq with e | e
          · have := q6 q e; omega
          · rcases hq with e2 | e2 | e2 | e2 | e2 | ⟨p, hp, b1, b2⟩
            · subst e2; exact lt_heap a1
            · subst e2; exact z3.lt.1
            · exact (z3.lt.2 q e2).1
            · exact (z2.lt q e2).2
            · exact (a2.lt q e2).2
            · obtain ⟨j, hj, rfl⟩ := List.getElem_of_mem hp
              have hjp := List.getElem?_eq_getElem hj
              have hjl : j < l.length := by have := a3.2.1; omega
              have := (a3.2.2.2 j _ _ _ (List.getElem?_eq_getElem hjl) (List.getElem?_eq_getElem (by rw [a3.1]; exact hjl)) hjp).1
              omega
        · have h10 := a6 p hp
          have h11 := fun q' hq' => q6 q' (q5 q' hq')
          refine ⟨fun e => ?_, fun e => ?_, fun e => ?_, fun e => ?_, h10.2 q b1 b2⟩
          · have := h11 q (.inl e); omega
          · have := h11 q (.inr (.inl e)); omega
          · have := h11 q (.inr (.inr (.inl e))); omega
          · have := h11 q (.inr (.inr (.inr (.inl e)))); omega
        · refine (hC1.out.mono (fun x hx => .inl (by simp at hx; subst hx; simp))).trans (a4.mono (fun x hx => .inl (List.mem_cons_of_mem _ hx)))
        · rcases List.mem_cons.1 hq with e | hq
          · exact q5 q (.inr (.inl e))
          · rcases List.mem_cons.1 hq with e | e
            · exact q5 q (.inl e)
            · refine q5 q (.inr (.inr (.inr (.inr ?_)))); rw [← hbl0.out, ← hb0.out]; simpa using e
      replace hend := Lib.hid hend
      clear a1 a2 a3 a4 a5 a6 q1 q2 q3 q4 q5 q6 hout z3 z2 hfoot
      go_wp2_with fail
      go_end0
      exact hend.out
end Mt
end Go.Proofs.Ytojgdmpnbgikeaa
