/- Contracts of bytes.Clone and of package event's Merge. Conditions: as they state. -/
import Derived.Test.YtncoedoiakaedaaDoorEvs
import Derived.Test.YtncoedoiakaedaaDoorWide
import Derived.StillTailTactics
set_option linter.unusedVariables false
set_option linter.unusedSimpArgs false
namespace Go.Proofs.YtncoedoiakaedaaDoor
open Go.RowKit Turn Tl
namespace Ev_
theorem bclone_nil (w : World) :
    Calls Tryd.prog 71 #[.slice none 0 0] w fun e w' => e = .returned (.slice none 0 0) ∧ w = w' := by
  have hs := fun (w : World) => Lib.run_eql_slice_nil (P := Tryd.prog) w 35 5 none 0 0 0 0 Tryd.underlying35
  go_enter Tryd.func71, Tryd.ntmps71
  go_wp2
  go_ret
  exact ⟨rfl, rfl⟩
def BCloneEnd (w : World) (xs : List Int) (e : Ending) (w' : World) : Prop :=
  ∃ A c, e = .returned (.slice A xs.length c) ∧ w'.ownsRow w.heap.size 5 1 (.slice A xs.length c) xs.length (cellsOf .u8 xs) ∧ Chg [] w w'
theorem bclone_some (w : World) (a : Addr) (n c : Nat) (xs : List Int) (h : Sl w 1 (.slice (some a) n c) n (cellsOf .u8 xs)) (hn : n ≤ 140737488351232) :
    Calls Tryd.prog 71 #[.slice (some a) n c] w (BCloneEnd w xs) := by
  obtain ⟨i0, hi, hz0, hz1, hz2⟩ := info_parts Tryd.info_u8
  have hl : xs.length = n := by have := h.len; simpa using this
  obtain ⟨A', c', e, _, _, _, _, hr⟩ := h
  obtain ⟨rfl, rfl⟩ : some a = A' ∧ c = c' := by simpa using e
  have hr2 : ∀ j u, (cellsOf .u8 xs)[j]? = some u → w.cell? (a.add j) = some u := by
    intro j u hu
    obtain ⟨ad, e, hr⟩ := hr (by have := (List.getElem?_eq_some_iff.1 hu).1; omega)
    simp only [Option.some.injEq] at e; subst e
    exact hr j u hu
  clear hr
  have hs := fun (w : World) => Lib.run_eql_slice_nil (P := Tryd.prog) w 35 5 (some a) n c 0 0 Tryd.underlying35
  have hown : (w.alloc (.cells #[] 5)).ownsRow w.heap.size 5 1 (.slice (some ⟨w.heap.size, 0, none⟩) 0 0) 0 [] := World.ownsRow_made w #[] 0 (Nat.le_refl _) (by simp) (by simp)
  go_enter Tryd.func71, Tryd.ntmps71
  go_wp2_with (at_builtin; refine wpList_append_own _ rfl (.tmp 5) (.tmp 6) 35 rfl w.heap.size 5 i0 (.int .u8 0) 1 1 Tryd.underlying35 hi hz0 hz1 hz2 rfl (by decide) _ 0 [] rfl hown a n c (cellsOf .u8 xs) rfl ?c0 ?c1 ?c2 ?c3 ?c4 ?c5 ?_)
  case c0 => simpa using hl
  case c1 => intro j u hu; exact (Chg.refl [] w).alloc _ |>.cell (hr2 j u hu) (by simp)
  case c2 => exact cellsOf_one
  case c3 => unfold maxLen; omega
  case c4 => omega
  case c5 => simp
  intro v' w' hown' hgrow _
  go_wp2
  go_ret
  obtain ⟨A', c', rfl⟩ := own_form hown'
  subst hl
  exact ⟨A', c', rfl, by simpa using hown', ((Chg.refl [] w).alloc _).grown hgrow (fun k hk => by simp [Value.ownBlock] at hk; right; omega)⟩
theorem bclone_any (w : World) (v : Value) (xs : List Int) (h : Sl w 1 v xs.length (cellsOf .u8 xs)) (hn : xs.length ≤ 140737488351232) :
    Calls Tryd.prog 71 #[v] w (BCloneEnd w xs) := by
  cases hb : v.ownBlock with
  | none =>
    obtain ⟨rfl, h1, h2⟩ := h.nil_of hb
    obtain rfl : xs = [] := List.eq_nil_of_length_eq_zero h1
    refine (bclone_nil w).mono ?_
    rintro e w' ⟨rfl, rfl⟩
    exact ⟨_, _, rfl, World.ownsRow_nil _ _ _ _, Chg.refl _ _⟩
  | some k =>
    obtain ⟨A, c, rfl, _⟩ := id h
    cases A with
    | none => simp [Value.ownBlock] at hb
    | some a => exact bclone_some w a _ c xs h hn
theorem Tryd.info_ev : (Tryd.prog.info? 37).map (fun i => (i.zero, i.size, i.bytes)) = some (some (Value.agg #[.int .i64 0, .int .i64 0, .slice none 0 0]), 3, 40) := by kernel_rfl
theorem Sl.at3 {w : World} {A : Option Addr} {n c : Nat} {cells : List Value} (h : Sl w 3 (.slice A n c) n cells) (j : Nat) (hj : j < n) : ∃ b o, A = some ⟨b, o, none⟩ ∧ ∀ q u, cells[j * 3 + q]? = some u → w.cell? ⟨b, o + j * 3 + q, none⟩ = some u := by
  have hl := h.len
  obtain ⟨A0, c0, e0, h0, h1, h2, h3, h4⟩ := h
  obtain ⟨rfl, rfl⟩ : A0 = A ∧ c0 = c := by simp at e0; exact ⟨e0.1.symm, e0.2.symm⟩
  obtain ⟨ad, rfl, hr⟩ := h4 (by omega)
  have hspot : ad.spot = none := by
    have := hr 0 _ (List.getElem?_eq_getElem (show 0 < cells.length by omega))
    exact World.cell?_spot (a := ad) (by simpa [Addr.add] using this)
  obtain ⟨b, off, spot⟩ := ad
  simp only at hspot
  subst hspot
  refine ⟨b, off, rfl, fun q u hu => ?_⟩
  have := hr _ u hu
  have ha : (⟨b, off, none⟩ : Addr).add (j * 3 + q) = ⟨b, off + j * 3 + q, none⟩ := by
    unfold Addr.add
    split
    · rename_i h; rw [show off + j * 3 + q = off by omega]
    · show (⟨b, off + (j * 3 + q), none⟩ : Addr) = _; rw [Nat.add_assoc]
  rwa [ha] at this
def toI (e : Ev) : EI := (dz e.1, e.2)
def sumTo (l : List Ev) (i : Nat) : Nat := ((l.take i).map (fun e => e.2.length)).sum
theorem sumTo_succ {l : List Ev} {i : Nat} {e : Ev} (h : l[i]? = some e) : sumTo l (i + 1) = sumTo l i + e.2.length := by
  unfold sumTo
  rw [List.take_add_one, h]; simp
theorem sumTo_mono {l : List Ev} {i j : Nat} (h : i ≤ j) : sumTo l i ≤ sumTo l j := by
  induction j with
  | zero => obtain rfl : i = 0 := by omega
            exact Nat.le_refl _
  | succ j ih =>
    rcases Nat.lt_or_ge j i with h1 | h1
    · obtain rfl : i = j + 1 := by omega
      exact Nat.le_refl _
    · refine Nat.le_trans (ih h1) ?_
      cases he : l[j]? with
      | some e => rw [sumTo_succ he]; omega
      | none =>
        unfold sumTo
        rw [List.take_of_length_le (List.getElem?_eq_none_iff.1 he), List.take_of_length_le (by have := List.getElem?_eq_none_iff.1 he; omega)]
        exact Nat.le_refl _
def MergeEnd (w : World) (l : List Ev) (e : Ending) (w' : World) : Prop :=
  ∃ A c cells, e = .returned (.slice A (merge l).length c) ∧ w'.ownsRow w.heap.size 37 3 (.slice A (merge l).length c) (merge l).length cells ∧ EvO w' w.heap.size cells (merge l) ∧ Chg [] w w'
/-- The loop's state: the events so far. -/
structure MSt (w W : World) (l : List Ev) (i : Nat) (A : Option Addr) (k c : Nat) (cells : List Value) (m : List Ev) : Prop where
  hm : (l.take i).foldl mstep [] = m
  hk : m.length = k
  own : W.ownsRow w.heap.size 37 3 (.slice A k c) k cells
  ev : EvO W w.heap.size cells m
  le : ∀ e ∈ m, e.2.length ≤ sumTo l i
  C : Chg [] w W
theorem MSt.chg {w W W' : World} {l : List Ev} {i : Nat} {A : Option Addr} {k c : Nat} {cells : List Value} {m : List Ev} (h : MSt w W l i A k c cells m) (hC : Chg [] W W') : MSt w W' l i A k c cells m :=
  ⟨h.hm, h.hk, own_chg h.own hC (by simp), h.ev.chg0 hC, h.le, h.C.trans hC⟩
theorem take_step {l : List Ev} {i : Nat} {e : Ev} (he : l[i]? = some e) : (l.take (i + 1)).foldl mstep [] = mstep ((l.take i).foldl mstep []) e := by
  rw [List.take_add_one, he, List.foldl_append]; rfl
theorem MSt.skip {w W W' : World} {l : List Ev} {i : Nat} {A : Option Addr} {k c : Nat} {cells : List Value} {m : List Ev} {d : Bool} (h : MSt w W l i A k c cells m) (he : l[i]? = some (d, [])) (hC : Chg [] W W') : MSt w W' l (i + 1) A k c cells m :=
  ⟨by rw [take_step he, h.hm]; unfold mstep; rw [if_pos rfl], h.hk, own_chg h.own hC (by simp), h.ev.chg0 hC, fun e he => Nat.le_trans (h.le e he) (sumTo_mono (by omega)), h.C.trans hC⟩
theorem own_some {w : World} {base : Nat} {e : TypeId} {size n c : Nat} {A : Option Addr} {xs : List Value} (h : w.ownsRow base e size (.slice A n c) n xs) (hn : 0 < n) : ∃ g, A = some ⟨g, 0, none⟩ ∧ base ≤ g := by
  rcases h.2 with ⟨h1, h2⟩ | ⟨g, cap, cur, h1, h2, -⟩
  · omega
  · cases h1; exact ⟨g, rfl, h2⟩
theorem bclone_u8 (w : World) (A : Option Addr) (c : Nat) (x : List UInt8) (h : Sl w 1 (.slice A x.length c) x.length (cellsOf .u8 (ns x))) (hn : x.length ≤ 16777216) :
    Calls Tryd.prog 71 #[.slice A x.length c] w fun e w' => ∃ A' c', e = .returned (.slice A' x.length c') ∧ w'.ownsRow w.heap.size 5 1 (.slice A' x.length c') x.length (cellsOf .u8 (ns x)) ∧ Chg [] w w' := by
  refine (bclone_any w (.slice A x.length c) (ns x) (by rw [ns_length]; exact h) (by rw [ns_length]; omega)).mono ?_
  rintro e w' ⟨A', c', rfl, h1, h2⟩
  rw [ns_length] at h1 ⊢
  exact ⟨A', c', rfl, h1, h2⟩
theorem sl_new3 (w : World) (a b c : Value) (e : TypeId) : Sl (w.alloc (.cells #[a, b, c] e)) 3 (.slice (some ⟨w.heap.size, 0, none⟩) 1 1) 1 [a, b, c] :=
  ⟨_, _, rfl, by simp, Nat.le_refl _, by decide, rfl, fun _ => ⟨_, rfl, fun j u hu => by
    have hj : j < 3 := (List.getElem?_eq_some_iff.1 hu).1
    have hb := blk_new w (.cells #[a, b, c] e)
    have ha : (⟨w.heap.size, 0, none⟩ : Addr).add j = ⟨w.heap.size, j, none⟩ := by unfold Addr.add; split <;> simp_all
    rw [ha]
    simp only [World.cell?, hb]
    simpa using hu⟩⟩
theorem own_weak {w : World} {base base' : Nat} {e : TypeId} {size n : Nat} {v : Value} {xs : List Value} (h : w.ownsRow base e size v n xs) (hb : base' ≤ base) : w.ownsRow base' e size v n xs := by
  obtain ⟨h1, h2⟩ := h
  refine ⟨h1, ?_⟩
  rcases h2 with h2 | ⟨g, cap, cur, rfl, hg, hh, r⟩
  · exact .inl h2
  · exact .inr ⟨g, cap, cur, rfl, Nat.le_trans hb hg, hh, r⟩
theorem own_typ {w : World} {base : Nat} {e : TypeId} {size n : Nat} {v : Value} {xs : List Value} (h : w.ownsRow base e size v n xs) (k : Nat) (hk : v.ownBlock = some k) : ∃ cells, w.heap[k]? = some (.cells cells e (0, 0)) := by
  rcases h.2 with ⟨rfl, _⟩ | ⟨g, cap, cur, rfl, hg, hh, r⟩
  · simp [Value.ownBlock] at hk
  · have : g = k := by simpa [Value.ownBlock] using hk
    subst this
    exact ⟨cur, hh⟩
/-- A row of events is no row of bytes. -/
theorem ev_ne {w : World} {b1 b2 n1 n2 : Nat} {s1 s2 : Nat} {v u : Value} {xs ys : List Value} (h : w.ownsRow b1 37 s1 v n1 xs) (h2 : w.ownsRow b2 5 s2 u n2 ys) (k : Nat) (hk : v.ownBlock = some k) : u.ownBlock ≠ some k := by
  intro hu
  obtain ⟨c1, e1⟩ := own_typ h k hk
  obtain ⟨c2, e2⟩ := own_typ h2 k hu
  rw [e1] at e2
  injection e2 with e2
  injection e2 with _ e2
  exact absurd e2 (by decide)
theorem MSt.push {w wr W5 w6 : World} {l : List Ev} {i : Nat} {A3 A2 A6 : Option Addr} {k c3 c2 c6 : Nat} {cs : List Value} {m : List Ev} {d : Bool} {y : List UInt8} (h : MSt w wr l i A3 k c3 cs m) (he : l[i]? = some (d, y)) (hy : y ≠ []) (hlast : ∀ p, m.getLast? = some p → p.1 ≠ d)
    (hC5 : Chg [] wr W5) (t : Int) (ho : W5.ownsRow wr.heap.size 5 1 (.slice A2 y.length c2) y.length (cellsOf .u8 (ns y))) (ho6 : w6.ownsRow w.heap.size 37 3 (.slice A6 (k + 1) c6) (k + 1) (cs ++ [.int .i64 (dz d), .int .i64 t, .slice A2 y.length c2])) (hC6 : Chg (Value.slice A3 k c3).ownBlock.toList W5 w6) :
    MSt w w6 l (i + 1) A6 (k + 1) c6 (cs ++ [.int .i64 (dz d), .int .i64 t, .slice A2 y.length c2]) (m ++ [(d, y)]) := by
  have hown5 := own_chg h.own hC5 (by simp)
  refine ⟨?_, by rw [List.length_append, h.hk]; rfl, ho6, ?_, ?_, ?_⟩
  · rw [take_step he, h.hm]
    unfold mstep
    rw [if_neg hy]
    cases hg : m.getLast? with
    | none => rfl
    | some p => simp only; rw [if_neg (hlast p hg)]
  · refine ((h.ev.chg0 hC5).snoc (d, y) t A2 c2 (own_weak ho h.C.size) ?_).chg hC6 ?_
    · intro j u q hj hu hq hk
      obtain ⟨t', A', c', -, -, h3, h4⟩ := h.ev.2.1 j _ (List.getElem?_eq_getElem hj)
      rw [hu] at h3
      cases h3
      have h5 := own_lt' h4 q hq
      have h6 := own_lt' ho q hk
      omega
    · intro j u q hu hq ⟨cs', hc'⟩ hm
      obtain ⟨c1, e1⟩ := own_typ hown5 q (by simpa using hm)
      rw [e1] at hc'
      injection hc' with hc'
      injection hc' with _ hc'
      exact absurd hc' (by decide)
  · intro e hm
    rcases List.mem_append.1 hm with hm | hm
    · exact Nat.le_trans (h.le e hm) (sumTo_mono (by omega))
    · simp at hm; subst hm; rw [sumTo_succ he]; exact Nat.le_add_left _ _
  · exact (h.C.trans hC5).then hC6 (fun q hq => .inr (own_lt' hown5 q (by simpa using hq)).1)
theorem MSt.grow {w wr W5 w6 : World} {l : List Ev} {i g3 : Nat} {A0 A6 : Option Addr} {k c3 c0 c6 : Nat} {cs : List Value} {q : List Ev} {d : Bool} {x y : List UInt8} (h : MSt w wr l i (some ⟨g3, 0, none⟩) (k + 1) c3 cs (q ++ [(d, x)])) (hk : q.length = k) (he : l[i]? = some (d, y)) (hy : y ≠ [])
    (h0 : cs[k * 3 + 2]? = some (.slice A0 x.length c0)) (hC5 : Chg [] wr W5) (ho6 : w6.ownsRow w.heap.size 5 1 (.slice A6 (x.length + y.length) c6) (x.length + y.length) (cellsOf .u8 (ns x) ++ cellsOf .u8 (ns y))) (hC6 : Chg (Value.slice A0 x.length c0).ownBlock.toList W5 w6)
    (hat : (Value.slice A6 (x.length + y.length) c6).ownBlock = (Value.slice A0 x.length c0).ownBlock ∨ ∀ q, (Value.slice A6 (x.length + y.length) c6).ownBlock = some q → W5.heap.size ≤ q) :
    (w6.cell? ⟨g3, k * 3 + 2, none⟩ = some (.slice A0 x.length c0) ∧ w6.frozen? ⟨g3, k * 3 + 2, none⟩ = false) ∧
    MSt w (w6.setCell ⟨g3, k * 3 + 2, none⟩ (.slice A6 (x.length + y.length) c6)) l (i + 1) (some ⟨g3, 0, none⟩) (k + 1) c3 (cs.set (k * 3 + 2) (.slice A6 (x.length + y.length) c6)) (q ++ [(d, x ++ y)]) := by
  subst hk
  have hown5 := own_chg h.own hC5 (by simp)
  have hev5 := h.ev.chg0 hC5
  obtain ⟨t', A', c', -, -, h3, h4⟩ := hev5.2.1 q.length (d, x) (by simp)
  rw [h0] at h3
  cases h3
  have hown6 := own_chg hown5 hC6 (fun k hk hm => ev_ne hown5 h4 k hk (by simpa using hm))
  have e1 : cellsOf .u8 (ns x) ++ cellsOf .u8 (ns y) = cellsOf .u8 (ns (x ++ y)) := by rw [← cellsOf_append]; unfold ns; rw [List.map_append]
  rw [e1] at ho6
  have hlen : x.length + y.length = (x ++ y).length := by rw [List.length_append]
  rw [hlen] at ho6 hat ⊢
  have hev6 := hev5.last h0 w6 y A6 c6 hC6 ho6 hat
  have hSt : Chg [g3] w6 (w6.setCell ⟨g3, q.length * 3 + 2, none⟩ (.slice A6 (x ++ y).length c6)) := (Chg.refl [g3] w6).setCell (.inl (by simp)) _
  refine ⟨own_cell hown6 h0, ?_, by simp, own_put hown6 _ _, hev6.chg hSt ?_, ?_, ?_⟩
  · rw [take_step he, h.hm]
    unfold mstep
    rw [if_neg hy]
    simp
  · intro j u k hu hk ⟨cs', hc'⟩ hm
    simp at hm
    subst hm
    obtain ⟨c1, e1⟩ := own_typ hown6 k rfl
    rw [e1] at hc'
    injection hc' with hc'
    injection hc' with _ hc'
    exact absurd hc' (by decide)
  · intro e hm
    have hx := h.le (d, x) (by simp)
    rcases List.mem_append.1 hm with hm | hm
    · exact Nat.le_trans (h.le e (List.mem_append_left _ hm)) (sumTo_mono (by omega))
    · simp at hm; subst hm; rw [sumTo_succ he]; simp only [List.length_append] at hx ⊢; omega
  · exact ((h.C.trans hC5).then hC6 (fun k hk => .inr (own_lt' h4 k (by simpa using hk)).1)).then hSt (fun k hk => .inr (by simp at hk; subst hk; exact (own_lt' hown6 k rfl).1))
set_option maxRecDepth 100000 in
set_option maxHeartbeats 4000000 in
theorem merge_any (w : World) (l : List Ev) (A : Option Addr) (n c : Nat) (cells : List Value) (hn : l.length = n) (hn2 : n ≤ 65536) (ht : sumTo l n ≤ 16777216) (hS : Sl w 3 (.slice A n c) n cells) (hE : EvC w cells (l.map toI)) :
    Calls Tryd.prog 54 #[.slice A n c] w (MergeEnd w l) := by
  replace hn := Lib.hid hn
  replace ht := Lib.hid ht
  replace hS := Lib.hid hS
  replace hE := Lib.hid hE
  go_enter Tryd.func54, Tryd.ntmps54
  go_wp2_with fail
  go_loopg [3, 5, 6, 9] n (fun gk v3 v5 v6 v9 wr => ∃ (i k : Nat) (A3 : Option Addr) (c3 : Nat) (cs : List Value) (m : List Ev), v9 = .int .i64 i ∧ i ≤ n ∧ gk = n - i ∧ k ≤ i ∧ v3 = .slice A3 k c3 ∧ Hid (MSt w wr l i A3 k c3 cs m))
  case atStart => exact ⟨0, 0, none, 0, [], [], rfl, by omega, by omega, by omega, rfl, Lib.hid ⟨by simp, rfl, World.ownsRow_nil _ _ _ _, EvO.nil _ _, by simp, Chg.refl _ _⟩⟩
  case round =>
    obtain ⟨i, k, A3, c3, cs, m, rfl, hi, rfl, hki, rfl, hM⟩ := hrel
    by_cases hlt : i < n
    · obtain ⟨e, he⟩ : ∃ e, l[i]? = some e := ⟨_, List.getElem?_eq_getElem (by have := hn.out; omega)⟩
      obtain ⟨b, o, rfl, hcell⟩ := Sl.at3 (hS.out.chg hM.out.C (by simp)) i hlt
      obtain ⟨t, A', c', h1, h2, h3, h4⟩ := (hE.out.chg0 hM.out.C).2 i (toI e) (by rw [List.getElem?_map, he]; rfl)
      have x0 := hcell 0 _ (by rw [Nat.add_zero]; exact h1)
      have x1 := hcell 1 _ h2
      have x2 := hcell 2 _ h3
      rw [Nat.add_zero] at x0
      clear hcell h1 h2 h3
      obtain ⟨d, y⟩ := e
      simp only [toI] at x0 x1 x2 h4
      replace h4 := Lib.hid h4
      replace he := Lib.hid he
      by_cases hy : y = []
      · subst hy
        have hnx : Hid (∀ W', Chg [] wr W' → MSt w W' l (i + 1) A3 k c3 cs m) := Lib.hid (fun W' hW => hM.out.skip he.out hW)
        clear hE hS hM h4
        go_wp2_with fail
        go_roundg (n - (i + 1))
        case measure => omega
        case rel => exact ⟨i + 1, k, A3, c3, cs, m, by go_num, by omega, rfl, by omega, rfl, Lib.hid (hnx.out _ ((Chg.refl [] wr).alloc _))⟩
      · have hy0 : 0 < y.length := List.length_pos_iff.2 hy
        have hy1 : ¬ (y.length : Int) = 0 := by omega
        have hy2 : ((y.length : Int) == 0) = false := by rw [beq_eq_false_iff_ne]; exact hy1
        have hM1 := Lib.hid (hM.out.chg ((Chg.refl [] wr).alloc (.cells #[.int .i64 (dz d), .int .i64 t, .slice A' y.length c'] 37 (0, 0))))
        have hcl := Lib.hid (fun W (hW : Chg [] wr W) => bclone_u8 W A' c' y (h4.out.chg hW (by simp)) (by have := sumTo_succ he.out; have := sumTo_mono (l := l) (show i + 1 ≤ n from hlt); have := ht.out; simp only at *; omega))
        replace hy := Lib.hid hy
        have hyb : y.length ≤ 16777216 ∧ sumTo l i ≤ 16777216 := by have := sumTo_succ he.out; have := sumTo_mono (l := l) (show i + 1 ≤ n from hlt); have := ht.out; simp only at *; omega
        clear hE hS
        obtain ⟨W1, hW1⟩ : ∃ W1, wr.alloc (.cells #[.int .i64 (dz d), .int .i64 t, .slice A' y.length c'] 37 (0, 0)) = W1 := ⟨_, rfl⟩
        have hbx : W1.heap[wr.heap.size]? = some (.cells #[.int .i64 (dz d), .int .i64 t, .slice A' y.length c'] 37 (0, 0)) := by rw [← hW1]; exact blk_new _ _
        have hsz : Hid (W1.heap.size = wr.heap.size + 1) := Lib.hid (by rw [← hW1]; exact size_alloc _ _)
        have hCW : Hid (Chg [] wr W1) := Lib.hid (by rw [← hW1]; exact (Chg.refl [] wr).alloc _)
        rw [hW1] at hM1
        have b0 : W1.cell? ⟨wr.heap.size, 0, none⟩ = some (.int .i64 (dz d)) := by simp [World.cell?, hbx]
        have b2 : W1.cell? ⟨wr.heap.size, 2, none⟩ = some (.slice A' y.length c') := by simp [World.cell?, hbx]
        replace hbx := Lib.hid hbx
        by_cases hm0 : m = []
        · subst hm0
          obtain rfl : k = 0 := by have := hM.out.hk; simp at this; omega
          go_wp2_with fail
          have hg0 : decide ((((0 : Nat) : Int)) > 0) = false := by decide
          go_wp2_with fail
          go_quiet (fail)
          go_wp2_with fail
          refine (hcl.out _ (hCW.out.drewN _)).mono ?_
          rintro e w3 ⟨A2, c2, rfl, hO3, hC3⟩
          have hCr : Chg [] wr w3 := (hCW.out.drewN nq).trans hC3
          have hb3 : w3.heap[wr.heap.size]? = some (.cells #[.int .i64 (dz d), .int .i64 t, .slice A' y.length c'] 37 (0, 0)) := hC3.heap (hbx.out) (by simp)
          have y0 : w3.cell? ⟨wr.heap.size, 0, none⟩ = some (.int .i64 (dz d)) := by simp [World.cell?, hb3]
          have y1 : w3.cell? ⟨wr.heap.size, 1, none⟩ = some (.int .i64 t) := by simp [World.cell?, hb3]
          have y2 : w3.cell? ⟨wr.heap.size, 2, none⟩ = some (.slice A' y.length c') := by simp [World.cell?, hb3]
          have f2 : w3.frozen? ⟨wr.heap.size, 2, none⟩ = false := by simp [World.frozen?, hb3]
          obtain ⟨W4, hW4⟩ : ∃ W4, w3.setCell ⟨wr.heap.size, 2, none⟩ (.slice A2 y.length c2) = W4 := ⟨_, rfl⟩
          have hb4 : W4.heap[wr.heap.size]? = some (.cells #[.int .i64 (dz d), .int .i64 t, .slice A2 y.length c2] 37 (0, 0)) := by rw [← hW4]; simpa using blk_set hb3 2 (.slice A2 y.length c2)
          have r0 : W4.cell? ⟨wr.heap.size, 0, none⟩ = some (.int .i64 (dz d)) := by simp [World.cell?, hb4]
          have r1 : W4.cell? ⟨wr.heap.size, 1, none⟩ = some (.int .i64 t) := by simp [World.cell?, hb4]
          have r2 : W4.cell? ⟨wr.heap.size, 2, none⟩ = some (.slice A2 y.length c2) := by simp [World.cell?, hb4]
          have hC5 : Chg [] wr (W4.alloc (.cells #[.int .i64 (dz d), .int .i64 t, .slice A2 y.length c2] 37 (0, 0))) := by rw [← hW4]; exact (hCr.setCell (.inr (Nat.le_refl _)) _).alloc _
          have hszq : W1.heap.size ≤ (W1.drewN nq).heap.size := Nat.le_refl _
          have hO4 : W4.ownsRow (W1.drewN nq).heap.size 5 1 (.slice A2 y.length c2) y.length (cellsOf .u8 (ns y)) := by rw [← hW4]; exact own_set hO3 wr.heap.size 2 (.slice A2 y.length c2) (fun hq => by have := own_lt' hO3 _ hq; have := hsz.out; omega)
          have hO5 := own_weak (own_chg hO4 ((Chg.refl [] _).alloc (.cells #[.int .i64 (dz d), .int .i64 t, .slice A2 y.length c2] 37 (0, 0))) (by simp)) (show wr.heap.size ≤ (W1.drewN nq).heap.size by have := hsz.out; omega)
          have hM5 := own_chg hM.out.own hC5 (by simp)
          have hbs : w.heap.size ≤ (W4.alloc (.cells #[.int .i64 (dz d), .int .i64 t, .slice A2 y.length c2] 37 (0, 0))).heap.size := Nat.le_trans hM.out.C.size hC5.size
          replace hC5 := Lib.hid hC5
          replace hO5 := Lib.hid hO5
          replace hM5 := Lib.hid hM5
          replace hbs := Lib.hid hbs
          clear hb3 hb4 hO4 hCr hO3 hC3 hcl hCW hbx hM1 hszq
          go_wp2_with (at_builtin; refine wpList_append_sl rfl (.tmp 19) (.tmp 21) 22 rfl w.heap.size 37 (Value.agg #[.int .i64 0, .int .i64 0, .slice none 0 0]) 3 40 Tryd.underlying22 Tryd.info_ev rfl (by decide) _ (0) cs rfl hM5.out _ 1 [.int .i64 (dz d), .int .i64 t, .slice A2 y.length c2] rfl (sl_new3 _ _ _ _ 37) (by intro u hu; simp at hu; rcases hu with rfl | rfl | rfl <;> rfl) (0 + 1) rfl (by omega) (by decide) hbs.out ?_)
          intro A6 c6 w6 hO6 hC6 _
          have hMn := Lib.hid (hM.out.push he.out hy.out (by simp) hC5.out t hO5.out hO6 hC6)
          clear hO6 hC6 hM5 hO5 hC5 hM
          go_wp2_with fail
          go_roundg (n - (i + 1))
          case measure => omega
          case rel => exact ⟨i + 1, 0 + 1, A6, c6, _, _, by go_num, by omega, rfl, by omega, rfl, hMn⟩
        · obtain ⟨q, d0, x, rfl⟩ : ∃ (q : List Ev) (d0 : Bool) (x : List UInt8), m = q ++ [(d0, x)] := ⟨m.dropLast, (m.getLast hm0).1, (m.getLast hm0).2, (List.dropLast_concat_getLast hm0).symm⟩
          obtain rfl : k = q.length + 1 := by have := hM.out.hk; simp at this; omega
          obtain ⟨k, hk⟩ : ∃ k, q.length = k := ⟨_, rfl⟩
          rw [hk] at hM hM1 hki ⊢
          replace hk := Lib.hid hk
          obtain ⟨g3, rfl, hg3⟩ := own_some hM1.out.own (by omega)
          obtain ⟨t0, A0, c0, z0, -, z2, hr0⟩ := hM1.out.ev.2.1 k (d0, x) (by rw [← hk.out]; simp)
          obtain ⟨zz0, -⟩ := own_cell hM1.out.own z0
          obtain ⟨zz2, -⟩ := own_cell hM1.out.own z2
          have hg0 : (0 : Int) < (((k + 1 : Nat) : Int)) := by omega
          by_cases hd : d0 = d
          · subst hd
            have hxb := hM.out.le (d0, x) (by simp)
            simp only at hxb
            go_wp2_with fail
            go_quiet (fail)
            go_wp2_with fail
            have hwk := IntWalk.i64_in (k : Int) (by omega)
            obtain ⟨Wq, hWq⟩ : ∃ Wq, W1.drewN nq = Wq := ⟨_, rfl⟩
            have hCq : Chg [] wr Wq := by rw [← hWq]; exact hCW.out.drewN nq
            have q2 : Wq.cell? ⟨g3, k * 3 + 2, none⟩ = some (.slice A0 x.length c0) := by rw [← hWq]; exact zz2
            have p2 : Wq.cell? ⟨wr.heap.size, 2, none⟩ = some (.slice A' y.length c') := by rw [← hWq]; exact b2
            have hrq : Wq.ownsRow w.heap.size 5 1 (.slice A0 x.length c0) x.length (cellsOf .u8 (ns x)) := by rw [← hWq]; exact own_drewN hr0 nq
            replace hrq := Lib.hid hrq
            replace hCq := Lib.hid hCq
            rw [hWq]
            clear hWq zz0 zz2 b0 b2 hr0 z0
            have hb1 : (k : Int) < ((k + 1 : Nat) : Int) := by omega
            have hb2 : (k : Int) < (k : Int) + 1 := by omega
            have hC5 : Chg [] wr Wq.drew := hCq.out.drew
            have q2 : Wq.drew.cell? ⟨g3, k * 3 + 2, none⟩ = some (.slice A0 x.length c0) := q2
            have p2 : Wq.drew.cell? ⟨wr.heap.size, 2, none⟩ = some (.slice A' y.length c') := p2
            have hr5 : Wq.drew.ownsRow w.heap.size 5 1 (.slice A0 x.length c0) x.length (cellsOf .u8 (ns x)) := own_drew hrq.out
            have hy5 := h4.out.chg hC5 (by simp)
            have hbs : w.heap.size ≤ Wq.drew.heap.size := Nat.le_trans hM.out.C.size hC5.size
            replace hr5 := Lib.hid hr5
            replace hy5 := Lib.hid hy5
            replace hC5 := Lib.hid hC5
            replace hbs := Lib.hid hbs
            replace z2 := Lib.hid z2
            clear hrq hCq h4 hM1 hcl hCW hbx
            refine wp_region_any (by kernel_rfl) ?_
            (try (change wpAny _ _ _ _ _ _ _ (World.drew _)))
            refine wpAny_take (i := 0) (v := ?_) rfl (by kernel_rfl) (by kernel_rfl) (by kernel_rfl) (fun _ _ _ h => h) (Or.inl ⟨by kernel_rfl, ?_⟩) ?_
            rotate_left
            · (intro w; go_simp; try with_reducible rfl)
            change wpAny _ _ _ _ _ _ (Act.put _ (some 42) _) _
            (try simp only [Act.put, List.setIfInBounds_toArray, List.set_cons_zero, List.set_cons_succ])
            refine wpAny_take (i := 1) (v := ?_) rfl (by kernel_rfl) (by kernel_rfl) (by kernel_rfl) (fun _ _ _ h => h) (Or.inl ⟨by kernel_rfl, ?_⟩) ?_
            rotate_left
            · (intro w; go_simp; try with_reducible rfl)
            change wpAny _ _ _ _ _ _ (Act.put _ (some 43) _) _
            (try simp only [Act.put, List.setIfInBounds_toArray, List.set_cons_zero, List.set_cons_succ])
            refine wpAny_take (i := 2) (v := ?_) rfl (by kernel_rfl) (by kernel_rfl) (by kernel_rfl) (fun _ _ _ h => h) (Or.inl ⟨by kernel_rfl, ?_⟩) ?_
            rotate_left
            · (intro w; go_simp; try with_reducible rfl)
            change wpAny _ _ _ _ _ _ (Act.put _ (some 44) _) _
            (try simp only [Act.put, List.setIfInBounds_toArray, List.set_cons_zero, List.set_cons_succ])
            refine wpAny_take (i := 3) (v := ?_) rfl (by kernel_rfl) (by kernel_rfl) (by kernel_rfl) (fun _ _ _ h => h) (Or.inl ⟨by kernel_rfl, ?_⟩) ?_
            rotate_left
            · (intro w; go_simp; try with_reducible rfl)
            change wpAny _ _ _ _ _ _ (Act.put _ (some 45) _) _
            (try simp only [Act.put, List.setIfInBounds_toArray, List.set_cons_zero, List.set_cons_succ])
            refine wpAny_take (i := 4) (v := ?_) rfl (by kernel_rfl) (by kernel_rfl) (by kernel_rfl) (fun _ _ _ h => h) (Or.inl ⟨by kernel_rfl, ?_⟩) ?_
            rotate_left
            · (intro w; go_simp; try with_reducible rfl)
            change wpAny _ _ _ _ _ _ (Act.put _ (some 46) _) _
            (try simp only [Act.put, List.setIfInBounds_toArray, List.set_cons_zero, List.set_cons_succ])
            refine wpAny_take (i := 5) (v := ?_) rfl (by kernel_rfl) (by kernel_rfl) (by kernel_rfl) (fun _ _ _ h => h) (Or.inl ⟨by kernel_rfl, ?_⟩) ?_
            rotate_left
            · (intro w; go_simp; try with_reducible rfl)
            change wpAny _ _ _ _ _ _ (Act.put _ (some 47) _) _
            (try simp only [Act.put, List.setIfInBounds_toArray, List.set_cons_zero, List.set_cons_succ])
            refine wpAny_take (i := 6) (v := ?_) rfl (by kernel_rfl) (by kernel_rfl) (by kernel_rfl) (fun _ _ _ h => h) (Or.inl ⟨by kernel_rfl, ?_⟩) ?_
            rotate_left
            · (intro w; go_simp; try with_reducible rfl)
            change wpAny _ _ _ _ _ _ (Act.put _ (some 48) _) _
            (try simp only [Act.put, List.setIfInBounds_toArray, List.set_cons_zero, List.set_cons_succ])
            refine wpAny_take (i := 7) (v := ?_) rfl (by kernel_rfl) (by kernel_rfl) (by kernel_rfl) (fun _ _ _ h => h) (Or.inl ⟨by kernel_rfl, ?_⟩) ?_
            rotate_left
            · (intro w; go_simp; try with_reducible rfl)
            change wpAny _ _ _ _ _ _ (Act.put _ (some 49) _) _
            (try simp only [Act.put, List.setIfInBounds_toArray, List.set_cons_zero, List.set_cons_succ])
            refine wpAny_take (i := 9) (v := ?_) rfl (by kernel_rfl) (by kernel_rfl) (by kernel_rfl) (fun _ _ _ h => h) (Or.inl ⟨by kernel_rfl, ?_⟩) ?_
            rotate_left
            · (intro w; go_simp; try with_reducible rfl)
            change wpAny _ _ _ _ _ _ (Act.put _ (some 51) _) _
            (try simp only [Act.put, List.setIfInBounds_toArray, List.set_cons_zero, List.set_cons_succ])
            refine wpAny_ready (rs := [8, 10]) (by kernel_rfl) (by simp) ?_
            refine AllReady.cons rfl (fun K hK => ?_) ?_
            · go_simp
              (try (refine hK _ _ ?_; clear hK K))
              (try simp only [Act.put, List.setIfInBounds_toArray, List.set_cons_zero, List.set_cons_succ])
              refine wpAny_ready (rs := [10]) (by kernel_rfl) (by simp) ?_
              refine AllReady.cons rfl (fun K hK => ?_) ?_
              · go_simp
                (try (refine hK _ _ ?_; clear hK K))
                (try simp only [Act.put, List.setIfInBounds_toArray, List.set_cons_zero, List.set_cons_succ])
                refine wpAny_ready (rs := [11]) (by kernel_rfl) (by simp) ?_
                refine AllReady.cons rfl (fun K hK => ?_) ?_
                · (refine step_append_sl rfl (.tmp 50) (.tmp 52) 35 rfl w.heap.size 5 (.int .u8 0) 1 1 Tryd.underlying35 Tryd.info_u8 rfl (by decide) (.slice A0 x.length c0) x.length (cellsOf .u8 (ns x)) hr5.out rfl (.slice A' y.length c') y.length (cellsOf .u8 (ns y)) hy5.out rfl cellsOf_one (x.length + y.length) rfl (by omega) (by decide) hbs.out ?_; intro A6 c6 w6 hO6 hC6 hat; obtain ⟨⟨s0, s1⟩, hMn⟩ := hM.out.grow hk.out he.out hy.out z2.out hC5.out hO6 hC6 hat; replace hMn := Lib.hid hMn; clear hO6 hC6 hat; refine hK _ _ ?_; clear hK K)
                  (try simp only [Act.put, List.setIfInBounds_toArray, List.set_cons_zero, List.set_cons_succ])
                  refine wpAny_take (i := 12) (v := ?_) rfl (by kernel_rfl) (by kernel_rfl) (by kernel_rfl) (fun _ _ _ h => h) (Or.inl ⟨by kernel_rfl, ?_⟩) ?_
                  rotate_left
                  · (intro w; go_simp; try with_reducible rfl)
                  change wpAny _ _ _ _ _ _ (Act.put _ (some 54) _) _
                  (try simp only [Act.put, List.setIfInBounds_toArray, List.set_cons_zero, List.set_cons_succ])
                  refine wpAny_take (i := 13) (v := ?_) rfl (by kernel_rfl) (by kernel_rfl) (by kernel_rfl) (fun _ _ _ h => h) (Or.inl ⟨by kernel_rfl, ?_⟩) ?_
                  rotate_left
                  · (intro w; go_simp; try with_reducible rfl)
                  change wpAny _ _ _ _ _ _ (Act.put _ (some 55) _) _
                  (try simp only [Act.put, List.setIfInBounds_toArray, List.set_cons_zero, List.set_cons_succ])
                  refine wpAny_ready (rs := [14]) (by kernel_rfl) (by simp) ?_
                  refine AllReady.cons rfl (fun K hK => ?_) ?_
                  · go_simp
                    (try (refine hK _ _ ?_; clear hK K))
                    (try simp only [Act.put, List.setIfInBounds_toArray, List.set_cons_zero, List.set_cons_succ])
                    refine wpAny_done (by kernel_rfl) ?_ _
                    (try simp only [Act.put, List.setIfInBounds_toArray, List.set_cons_zero, List.set_cons_succ])
                    clear hr5 hy5 hC5 hM p2 q2 s0 s1
                    go_wp2_with fail
                    go_roundg (n - (i + 1))
                    case measure => omega
                    case rel => exact ⟨i + 1, k + 1, _, c3, _, _, by go_num, by omega, rfl, by omega, rfl, hMn⟩
                  exact AllReady.nil
                exact AllReady.nil
              exact AllReady.nil
            refine AllReady.cons rfl (fun K hK => ?_) ?_
            · go_simp
              (try (refine hK _ _ ?_; clear hK K))
              (try simp only [Act.put, List.setIfInBounds_toArray, List.set_cons_zero, List.set_cons_succ])
              refine wpAny_ready (rs := [8]) (by kernel_rfl) (by simp) ?_
              refine AllReady.cons rfl (fun K hK => ?_) ?_
              · go_simp
                (try (refine hK _ _ ?_; clear hK K))
                (try simp only [Act.put, List.setIfInBounds_toArray, List.set_cons_zero, List.set_cons_succ])
                refine wpAny_ready (rs := [11]) (by kernel_rfl) (by simp) ?_
                refine AllReady.cons rfl (fun K hK => ?_) ?_
                · (refine step_append_sl rfl (.tmp 50) (.tmp 52) 35 rfl w.heap.size 5 (.int .u8 0) 1 1 Tryd.underlying35 Tryd.info_u8 rfl (by decide) (.slice A0 x.length c0) x.length (cellsOf .u8 (ns x)) hr5.out rfl (.slice A' y.length c') y.length (cellsOf .u8 (ns y)) hy5.out rfl cellsOf_one (x.length + y.length) rfl (by omega) (by decide) hbs.out ?_; intro A6 c6 w6 hO6 hC6 hat; obtain ⟨⟨s0, s1⟩, hMn⟩ := hM.out.grow hk.out he.out hy.out z2.out hC5.out hO6 hC6 hat; replace hMn := Lib.hid hMn; clear hO6 hC6 hat; refine hK _ _ ?_; clear hK K)
                  (try simp only [Act.put, List.setIfInBounds_toArray, List.set_cons_zero, List.set_cons_succ])
                  refine wpAny_take (i := 12) (v := ?_) rfl (by kernel_rfl) (by kernel_rfl) (by kernel_rfl) (fun _ _ _ h => h) (Or.inl ⟨by kernel_rfl, ?_⟩) ?_
                  rotate_left
                  · (intro w; go_simp; try with_reducible rfl)
                  change wpAny _ _ _ _ _ _ (Act.put _ (some 54) _) _
                  (try simp only [Act.put, List.setIfInBounds_toArray, List.set_cons_zero, List.set_cons_succ])
                  refine wpAny_take (i := 13) (v := ?_) rfl (by kernel_rfl) (by kernel_rfl) (by kernel_rfl) (fun _ _ _ h => h) (Or.inl ⟨by kernel_rfl, ?_⟩) ?_
                  rotate_left
                  · (intro w; go_simp; try with_reducible rfl)
                  change wpAny _ _ _ _ _ _ (Act.put _ (some 55) _) _
                  (try simp only [Act.put, List.setIfInBounds_toArray, List.set_cons_zero, List.set_cons_succ])
                  refine wpAny_ready (rs := [14]) (by kernel_rfl) (by simp) ?_
                  refine AllReady.cons rfl (fun K hK => ?_) ?_
                  · go_simp
                    (try (refine hK _ _ ?_; clear hK K))
                    (try simp only [Act.put, List.setIfInBounds_toArray, List.set_cons_zero, List.set_cons_succ])
                    refine wpAny_done (by kernel_rfl) ?_ _
                    (try simp only [Act.put, List.setIfInBounds_toArray, List.set_cons_zero, List.set_cons_succ])
                    clear hr5 hy5 hC5 hM p2 q2 s0 s1
                    go_wp2_with fail
                    go_roundg (n - (i + 1))
                    case measure => omega
                    case rel => exact ⟨i + 1, k + 1, _, c3, _, _, by go_num, by omega, rfl, by omega, rfl, hMn⟩
                  exact AllReady.nil
                exact AllReady.nil
              exact AllReady.nil
            exact AllReady.nil
          · have hdd : ¬ dz d0 = dz d := fun h => hd (dz_inj.1 h)
            have hdd2 : (dz d0 == dz d) = false := beq_eq_false_iff_ne.2 hdd
            have hgt := hg0
            go_wp2_with fail
            go_quiet (fail)
            go_wp2_with fail
            refine (hcl.out _ (hCW.out.drewN _)).mono ?_
            rintro e w3 ⟨A2, c2, rfl, hO3, hC3⟩
            have hCr : Chg [] wr w3 := (hCW.out.drewN nq).trans hC3
            have hb3 : w3.heap[wr.heap.size]? = some (.cells #[.int .i64 (dz d), .int .i64 t, .slice A' y.length c'] 37 (0, 0)) := hC3.heap (hbx.out) (by simp)
            have y0 : w3.cell? ⟨wr.heap.size, 0, none⟩ = some (.int .i64 (dz d)) := by simp [World.cell?, hb3]
            have y1 : w3.cell? ⟨wr.heap.size, 1, none⟩ = some (.int .i64 t) := by simp [World.cell?, hb3]
            have y2 : w3.cell? ⟨wr.heap.size, 2, none⟩ = some (.slice A' y.length c') := by simp [World.cell?, hb3]
            have f2 : w3.frozen? ⟨wr.heap.size, 2, none⟩ = false := by simp [World.frozen?, hb3]
            obtain ⟨W4, hW4⟩ : ∃ W4, w3.setCell ⟨wr.heap.size, 2, none⟩ (.slice A2 y.length c2) = W4 := ⟨_, rfl⟩
            have hb4 : W4.heap[wr.heap.size]? = some (.cells #[.int .i64 (dz d), .int .i64 t, .slice A2 y.length c2] 37 (0, 0)) := by rw [← hW4]; simpa using blk_set hb3 2 (.slice A2 y.length c2)
            have r0 : W4.cell? ⟨wr.heap.size, 0, none⟩ = some (.int .i64 (dz d)) := by simp [World.cell?, hb4]
            have r1 : W4.cell? ⟨wr.heap.size, 1, none⟩ = some (.int .i64 t) := by simp [World.cell?, hb4]
            have r2 : W4.cell? ⟨wr.heap.size, 2, none⟩ = some (.slice A2 y.length c2) := by simp [World.cell?, hb4]
            have hC5 : Chg [] wr (W4.alloc (.cells #[.int .i64 (dz d), .int .i64 t, .slice A2 y.length c2] 37 (0, 0))) := by rw [← hW4]; exact (hCr.setCell (.inr (Nat.le_refl _)) _).alloc _
            have hszq : W1.heap.size ≤ (W1.drewN nq).heap.size := Nat.le_refl _
            have hO4 : W4.ownsRow (W1.drewN nq).heap.size 5 1 (.slice A2 y.length c2) y.length (cellsOf .u8 (ns y)) := by rw [← hW4]; exact own_set hO3 wr.heap.size 2 (.slice A2 y.length c2) (fun hq => by have := own_lt' hO3 _ hq; have := hsz.out; omega)
            have hO5 := own_weak (own_chg hO4 ((Chg.refl [] _).alloc (.cells #[.int .i64 (dz d), .int .i64 t, .slice A2 y.length c2] 37 (0, 0))) (by simp)) (show wr.heap.size ≤ (W1.drewN nq).heap.size by have := hsz.out; omega)
            have hM5 := own_chg hM.out.own hC5 (by simp)
            have hbs : w.heap.size ≤ (W4.alloc (.cells #[.int .i64 (dz d), .int .i64 t, .slice A2 y.length c2] 37 (0, 0))).heap.size := Nat.le_trans hM.out.C.size hC5.size
            replace hC5 := Lib.hid hC5
            replace hO5 := Lib.hid hO5
            replace hM5 := Lib.hid hM5
            replace hbs := Lib.hid hbs
            clear hb3 hb4 hO4 hCr hO3 hC3 hcl hCW hbx hM1 hszq
            go_wp2_with (at_builtin; refine wpList_append_sl rfl (.tmp 19) (.tmp 21) 22 rfl w.heap.size 37 (Value.agg #[.int .i64 0, .int .i64 0, .slice none 0 0]) 3 40 Tryd.underlying22 Tryd.info_ev rfl (by decide) _ (k + 1) cs rfl hM5.out _ 1 [.int .i64 (dz d), .int .i64 t, .slice A2 y.length c2] rfl (sl_new3 _ _ _ _ 37) (by intro u hu; simp at hu; rcases hu with rfl | rfl | rfl <;> rfl) (k + 1 + 1) rfl (by omega) (by decide) hbs.out ?_)
            intro A6 c6 w6 hO6 hC6 _
            have hMn := Lib.hid (hM.out.push he.out hy.out (by intro p hp; simp at hp; subst hp; exact hd) hC5.out t hO5.out hO6 hC6)
            clear hO6 hC6 hM5 hO5 hC5 hM
            go_wp2_with fail
            go_roundg (n - (i + 1))
            case measure => omega
            case rel => exact ⟨i + 1, k + 1 + 1, A6, c6, _, _, by go_num, by omega, rfl, by omega, rfl, hMn⟩
    · obtain rfl : i = n := by omega
      have hfin := hM.out
      have hme : merge l = m := by
        have := hfin.hm
        rw [List.take_of_length_le (by rw [hn.out]; exact Nat.le_refl _)] at this
        exact this
      clear hE hS
      have hp : Hid (MergeEnd w l (.returned (.slice A3 k c3)) wr) := Lib.hid (by
        unfold MergeEnd
        rw [hme, hfin.hk]
        exact ⟨_, _, _, rfl, hfin.own, hfin.ev, hfin.C⟩)
      clear hfin hM hme
      go_wp2_with fail
      go_ret
      exact hp.out
end Ev_
end Go.Proofs.YtncoedoiakaedaaDoor
