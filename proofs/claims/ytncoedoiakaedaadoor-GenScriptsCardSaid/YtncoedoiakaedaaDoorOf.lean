/- The reference of layer 10: Of. Conditions: as it states. -/
import Derived.Test.YtncoedoiakaedaaDoorFlat
import Derived.Test.YtncoedoiakaedaaDoorChk
import Derived.Test.YtncoedoiakaedaaDoorWide
set_option linter.unusedVariables false
set_option linter.unusedSimpArgs false
namespace Go.Proofs.YtncoedoiakaedaaDoor
open Go.RowKit Tail Turn Tl Ev_ Gn
namespace Ow
theorem Tryd.info_turn : (Tryd.prog.info? 46).map (fun i => (i.zero, i.size, i.bytes)) = some (some (Value.agg #[.slice none 0 0, .slice none 0 0]), 2, 48) := by kernel_rfl
theorem sl_new2 (w : World) (a b : Value) (e : TypeId) : Sl (w.alloc (.cells #[a, b] e)) 2 (.slice (some ⟨w.heap.size, 0, none⟩) 1 1) 1 [a, b] :=
  ⟨_, _, rfl, by simp, Nat.le_refl _, by decide, rfl, fun _ => ⟨_, rfl, fun j u hu => by
    have hj : j < 2 := (List.getElem?_eq_some_iff.1 hu).1
    have hb := blk_new w (.cells #[a, b] e)
    have ha : (⟨w.heap.size, 0, none⟩ : Addr).add j = ⟨w.heap.size, j, none⟩ := by unfold Addr.add; split <;> simp_all
    rw [ha]
    simp only [World.cell?, hb]
    simpa using hu⟩⟩
structure OSt (w W : World) (A : Option Addr) (k c : Nat) (cells : List Value) (ts : List Tn) : Prop where
  own : W.ownsRow w.heap.size 46 2 (.slice A k c) k cells
  rw : Rw W w.heap.size cells (flat ts)
  hk : ts.length = k
  C : Chg [] w W
theorem OSt.init (w : World) : OSt w w none 0 0 [] [] := ⟨World.ownsRow_nil _ _ _ _, Rw.nil _ _, rfl, Chg.refl _ _⟩
theorem OSt.chg {w W W' : World} {A : Option Addr} {k c : Nat} {cells : List Value} {ts : List Tn} (h : OSt w W A k c cells ts) (hC : Chg [] W W') : OSt w W' A k c cells ts :=
  ⟨own_chg h.own hC (by simp), h.rw.chg0 hC, h.hk, h.C.trans hC⟩
theorem turn_ne {w : World} {b n s : Nat} {v : Value} {xs : List Value} (h : w.ownsRow b 46 s v n xs) {k : Nat} {cs : Array Value} (hc : w.heap[k]? = some (.cells cs 5 (0, 0))) : v.ownBlock ≠ some k := by
  intro hk
  obtain ⟨c1, e1⟩ := own_typ h k hk
  rw [e1] at hc
  injection hc with hc
  injection hc with _ hc
  exact absurd hc (by decide)
theorem OSt.push {w W W5 W6 : World} {A A6 : Option Addr} {k c c6 : Nat} {cells : List Value} {ts : List Tn} (h : OSt w W A k c cells ts) (h5 : Chg [] W W5) (ho : W6.ownsRow w.heap.size 46 2 (.slice A6 (k + 1) c6) (k + 1) (cells ++ [.slice none 0 0, .slice none 0 0])) (hC : Chg (Value.slice A k c).ownBlock.toList W5 W6) :
    OSt w W6 A6 (k + 1) c6 (cells ++ [.slice none 0 0, .slice none 0 0]) (ts ++ [([], [])]) := by
  have h9 := h.chg h5
  refine ⟨ho, ?_, by rw [List.length_append, h.hk]; rfl, h9.C.then hC (fun q hq => .inr (own_lt' h9.own q (by simpa using hq)).1)⟩
  rw [flat_snoc]
  exact (h9.rw.chg hC (fun k cs hk _ hm => turn_ne h9.own hk (by simpa using hm))).push
theorem addLast_snoc (r : List Tn) (t : Tn) (d : Bool) (x : List UInt8) : addLast (r ++ [t]) d x = r ++ [if d then (t.1, t.2 ++ x) else (t.1 ++ x, t.2)] := by unfold addLast; simp
theorem flat_set (r : List Tn) (t : Tn) (d : Bool) (x : List UInt8) : flat (addLast (r ++ [t]) d x) = (flat (r ++ [t])).set (r.length * 2 + (if d then 1 else 0)) ((if d then t.2 else t.1) ++ x) := by
  rw [addLast_snoc, flat_snoc, flat_snoc]
  have hl := flat_len r
  cases d
  · simp only [Bool.false_eq_true, if_false, Nat.add_zero]
    rw [List.set_append_right _ _ (by omega), hl, Nat.sub_self]; rfl
  · simp only [if_true]
    rw [List.set_append_right _ _ (by omega), hl, show r.length * 2 + 1 - r.length * 2 = 1 by omega]; rfl
theorem OSt.grow {w W W5 W6 : World} {g3 : Nat} {A0 A6 : Option Addr} {k c c0 c6 p : Nat} {cells : List Value} {r : List Tn} {t : Tn} {d : Bool} {x : UInt8} {z : List UInt8} (h : OSt w W (some ⟨g3, 0, none⟩) (k + 1) c cells (r ++ [t])) (hk : r.length = k) (hz : (if d then t.2 else t.1) = z) (hp : k * 2 + (if d then 1 else 0) = p)
    (h0 : cells[p]? = some (.slice A0 z.length c0)) (h5 : Chg [] W W5) (ho : W6.ownsRow w.heap.size 5 1 (.slice A6 (z.length + 1) c6) (z.length + 1) (cellsOf .u8 (ns z) ++ [.int .u8 x.toNat])) (hC : Chg (Value.slice A0 z.length c0).ownBlock.toList W5 W6)
    (hat : (Value.slice A6 (z.length + 1) c6).ownBlock = (Value.slice A0 z.length c0).ownBlock ∨ ∀ q, (Value.slice A6 (z.length + 1) c6).ownBlock = some q → W5.heap.size ≤ q) :
    (W6.cell? ⟨g3, p, none⟩ = some (.slice A0 z.length c0) ∧ W6.frozen? ⟨g3, p, none⟩ = false) ∧ OSt w (W6.setCell ⟨g3, p, none⟩ (.slice A6 (z.length + 1) c6)) (some ⟨g3, 0, none⟩) (k + 1) c (cells.set p (.slice A6 (z.length + 1) c6)) (addLast (r ++ [t]) d [x]) := by
  subst hk
  have h9 := h.chg h5
  have hfx : (flat (r ++ [t]))[p]? = some z := by
    have := flat_get (ts := r ++ [t]) (j := r.length) (t := t) (by simp)
    rw [← hp, ← hz]
    cases d
    · simpa using this.1
    · simpa using this.2
  obtain ⟨A', c', h1, h2⟩ := h9.rw.2.1 p z hfx
  rw [h0] at h1
  cases h1
  have hown6 := own_chg h9.own hC (fun q hq hm => by
    obtain ⟨cs, hcs⟩ := own_typ h2 q (by simpa using hm)
    exact turn_ne h9.own hcs hq)
  have e1 : cellsOf .u8 (ns z) ++ [.int .u8 x.toNat] = cellsOf .u8 (ns (z ++ [x])) := by unfold ns cellsOf; simp
  have e2 : z.length + 1 = (z ++ [x]).length := by simp
  rw [e1] at ho
  rw [e2] at ho hat ⊢
  have hrw := h9.rw.grow hfx h0 hC ho hat
  have hSt : Chg [g3] W6 (W6.setCell ⟨g3, p, none⟩ (.slice A6 (z ++ [x]).length c6)) := (Chg.refl [g3] W6).setCell (.inl (by simp)) _
  refine ⟨own_cell hown6 h0, own_put hown6 _ _, ?_, ?_, ?_⟩
  · rw [flat_set, hz, hp]
    exact hrw.chg hSt (fun q cs hq _ hm => by
      simp at hm
      subst hm
      exact turn_ne hown6 hq rfl)
  · rw [addLast_snoc]; simp
  · exact (h9.C.then hC (fun q hq => .inr (own_lt' h2 q (by simpa using hq)).1)).then hSt (fun q hq => .inr (by simp at hq; subst hq; exact (own_lt' hown6 q rfl).1))
theorem addLast_tot (ts : List Tn) (d : Bool) (x : UInt8) : totT (addLast ts d [x]) ≤ totT ts + 1 ∧ (addLast ts d [x]).length = ts.length := by
  unfold addLast
  cases h : ts.getLast? with
  | none => simp
  | some t =>
    have hne : ts ≠ [] := by rintro rfl; simp at h
    have hm : ts = ts.dropLast ++ [t] := by
      rw [List.getLast?_eq_some_getLast hne] at h
      cases h
      exact (List.dropLast_concat_getLast hne).symm
    have h2 := congrArg totT hm
    have h3 := congrArg List.length hm
    rw [totT_append] at h2
    simp only [List.length_append, List.length_singleton] at h3
    simp only [totT_append, List.length_append, List.length_singleton]
    refine ⟨?_, by omega⟩
    unfold totT at h2 ⊢
    cases d <;> simp at h2 ⊢ <;> omega
theorem addB_tot (s : List Tn × Bool) (d : Bool) (x : UInt8) : totT (addB s d x).1 ≤ totT s.1 + 1 ∧ (addB s d x).1.length ≤ s.1.length + 1 := by
  unfold addB
  simp only
  split
  · have h := addLast_tot (s.1 ++ [([], [])]) d x
    rw [totT_append] at h
    have e : totT [(([] : List UInt8), ([] : List UInt8))] = 0 := rfl
    simp only [List.length_append, List.length_singleton] at h
    omega
  · have h := addLast_tot s.1 d x
    omega
theorem sel_step {l : List EI} {i : Nat} {e : EI} (h : l[i]? = some e) : (sel (l.take (i + 1))).foldl addBs ([], true) = (match selE e with | some v => addBs ((sel (l.take i)).foldl addBs ([], true)) v | none => (sel (l.take i)).foldl addBs ([], true)) := by
  rw [sel_succ h, List.foldl_append]
  cases selE e <;> rfl
theorem tot_step {l : List EI} {i : Nat} {e : EI} (h : l[i]? = some e) : totI (l.take i) + e.2.length ≤ totI l := by
  obtain ⟨hi, he⟩ := List.getElem?_eq_some_iff.1 h
  have e1 : l = l.take i ++ [e] ++ l.drop (i + 1) := by rw [← he, List.append_assoc]; simp
  have e2 : totI l = totI (l.take i) + (e.2.length + totI (l.drop (i + 1))) := by
    conv => lhs; rw [e1]
    unfold totI
    simp
  omega
theorem tot_succ {l : List EI} {i : Nat} {e : EI} (h : l[i]? = some e) : totI (l.take (i + 1)) = totI (l.take i) + e.2.length := by
  unfold totI
  rw [List.take_add_one, h]
  simp
theorem take_fold {y : List UInt8} {j : Nat} {b : UInt8} (h : y[j]? = some b) (d : Bool) (s : List Tn × Bool) : (y.take (j + 1)).foldl (fun s x => addB s d x) s = addB ((y.take j).foldl (fun s x => addB s d x) s) d b := by
  rw [List.take_add_one, h, List.foldl_append]; rfl
def OfEnd (w : World) (T : List Tn) (e : Ending) (w' : World) : Prop :=
  ∃ A c cells, e = .returned (.slice A T.length c) ∧ OSt w w' A T.length c cells T
set_option maxRecDepth 100000 in
set_option maxHeartbeats 8000000 in
theorem rof_any (w : World) (l : List EI) (A : Option Addr) (n c : Nat) (cells : List Value) (hn : l.length = n) (hn2 : n ≤ 65536) (ht : totI l ≤ 262144) (hS : Sl w 3 (.slice A n c) n cells) (hE : EvC w cells l) :
    Calls Tryd.prog 15 #[.slice A n c] w (OfEnd w (refT (sel l)).1) := by
  replace hn := Lib.hid hn
  replace ht := Lib.hid ht
  replace hS := Lib.hid hS
  replace hE := Lib.hid hE
  go_enter Tryd.func15, Tryd.ntmps15
  go_wp2_with fail
  go_loopg [3, 4, 5] n (fun gk v3 v4 v5 wr => ∃ (i k : Nat) (A3 : Option Addr) (c3 : Nat) (cs : List Value) (ts : List Tn) (la : Bool), v5 = .int .i64 i ∧ v3 = .slice A3 k c3 ∧ v4 = .int .i64 (dz la) ∧ i ≤ n ∧ gk = n - i ∧ k ≤ totI (l.take i) ∧ Hid ((sel (l.take i)).foldl addBs ([], true) = (ts, la)) ∧ Hid (totT ts ≤ totI (l.take i)) ∧ Hid (OSt w wr A3 k c3 cs ts))
  case atStart => exact ⟨0, 0, none, 0, [], [], true, rfl, rfl, rfl, by omega, by omega, by omega, Lib.hid (by simp [sel]), Lib.hid (by simp [totT]), Lib.hid (OSt.init w)⟩
  case round =>
    obtain ⟨i, k, A3, c3, cs, ts, la, rfl, rfl, rfl, hi, rfl, hk, hf, htt, hO⟩ := hrel
    by_cases hlt : i < n
    · obtain ⟨e, he⟩ : ∃ e, l[i]? = some e := ⟨_, List.getElem?_eq_getElem (by have := hn.out; omega)⟩
      obtain ⟨b, o, rfl, hcell⟩ := Sl.at3 hS.out i hlt
      obtain ⟨t, A', c', h1, h2, h3, h4⟩ := hE.out.2 i e he
      have x0 := hcell 0 _ (by rw [Nat.add_zero]; exact h1)
      have x2 := hcell 2 _ h3
      rw [Nat.add_zero] at x0
      have hst := sel_step he
      have hts := tot_step he
      have htc := tot_succ he
      rw [hf.out] at hst
      obtain ⟨d, y⟩ := e
      simp only at x0 x2 h4 hts htc
      obtain ⟨T0, hT0⟩ : ∃ T0, totI (l.take i) = T0 := ⟨_, rfl⟩
      rw [hT0] at hk htt hts htc
      replace hst := Lib.hid hst
      replace htc := Lib.hid htc
      replace x0 := Lib.hid x0
      replace x2 := Lib.hid x2
      replace h4 := Lib.hid h4
      have htl := ht.out
      clear hcell h1 h2 h3 he hS hE
      by_cases hd : d = 0 ∨ d = 1
      · obtain ⟨D, rfl⟩ : ∃ D : Bool, d = dz D := by rcases hd with rfl | rfl; exact ⟨false, rfl⟩; exact ⟨true, rfl⟩
        have hse : selE (dz D, y) = some (D, y) := by cases D <;> rfl
        have hst2 : Hid ((sel (l.take (i + 1))).foldl addBs ([], true) = y.foldl (fun s x => addB s D x) (ts, la)) := Lib.hid (by rw [hst.out, hse]; rfl)
        clear hd hse hst
        go_wp2_with fail
        go_loopg [3, 4, 6, 7, 8] y.length (fun gk v3 v4 v6 v7 v8 wr => ∃ (j k : Nat) (A3 : Option Addr) (c3 : Nat) (cs : List Value) (ts' : List Tn) (la' : Bool), v6 = .int .i64 j ∧ v3 = .slice A3 k c3 ∧ v4 = .int .i64 (dz la') ∧ j ≤ y.length ∧ gk = y.length - j ∧ k ≤ T0 + j ∧ Hid ((y.take j).foldl (fun s x => addB s D x) (ts, la) = (ts', la')) ∧ Hid (totT ts' ≤ T0 + j) ∧ Hid (OSt w wr A3 k c3 cs ts'))
        case atStart => exact ⟨0, k, A3, c3, cs, ts, la, rfl, rfl, rfl, by omega, by omega, by omega, Lib.hid (by simp), htt, hO⟩
        case round =>
          clear hO htt hk
          obtain ⟨j, k, A3, c3, cs, ts', la', rfl, rfl, rfl, hj, rfl, hk, hf2, htt, hO⟩ := hrel
          have x0' := hO.out.C.cell x0.out (by simp)
          have x2' := hO.out.C.cell x2.out (by simp)
          by_cases hlj : j < y.length
          · obtain ⟨x, hx⟩ : ∃ x, y[j]? = some x := ⟨_, List.getElem?_eq_getElem hlj⟩
            obtain ⟨by', oy, rfl, hyc⟩ : ∃ by' oy, A' = some ⟨by', oy, none⟩ ∧ w.cell? ⟨by', oy + j, none⟩ = some (.int .u8 x.toNat) := by
              obtain ⟨b1, o1, x1, h5, h6, h7⟩ := h4.out.at j hlj
              rw [ns_get hx] at h6
              cases h6
              exact ⟨b1, o1, h5, h7⟩
            replace hyc := Lib.hid hyc
            have hst3 : Hid ((y.take (j + 1)).foldl (fun s x => addB s D x) (ts, la) = addB (ts', la') D x) := Lib.hid (by rw [take_fold hx, hf2.out])
            have htt3 : Hid (totT (addB (ts', la') D x).1 ≤ T0 + (j + 1) ∧ (addB (ts', la') D x).1.length ≤ k + 1) := Lib.hid (by
              have h1 := addB_tot (ts', la') D x
              have h2 := htt.out
              have h3 := hO.out.hk
              simp only at h1
              omega)
            have hkb : k ≤ 262144 := by omega
            clear hx hf2
            cases D with
            -- SIX WAYS
            | false =>
              have hdt : dz true = 1 := rfl
              have hdf : dz false = 0 := rfl
              simp only [hdt, hdf] at x0'
              by_cases hk0 : k = 0
              · subst hk0
                have hk0b : (((0 : Nat) : Int) == 0) = true := rfl
                have hcond : Hid (ts' = [] ∨ (false = false ∧ la' = true)) := Lib.hid (.inl (List.eq_nil_of_length_eq_zero (by rw [hO.out.hk])))
                have e9 : Hid (addB (ts', la') false x = (addLast (ts' ++ [([], [])]) false [x], false)) := Lib.hid (by unfold addB; exact congrArg (fun z => (addLast z false [x], false)) (if_pos hcond.out))
                obtain ⟨W5, hW5⟩ : ∃ W5, wr.alloc (.cells #[.slice none 0 0, .slice none 0 0] 46 (0, 0)) = W5 := ⟨_, rfl⟩
                have h5 : Chg [] wr W5 := by rw [← hW5]; exact (Chg.refl [] wr).alloc _
                have hnw0 : Hid (Sl W5 2 (.slice (some ⟨wr.heap.size, 0, none⟩) 1 1) 1 [.slice none 0 0, .slice none 0 0]) := Lib.hid (by rw [← hW5]; exact sl_new2 wr (.slice none 0 0) (.slice none 0 0) 46)
                have hbs0 : Hid (w.heap.size ≤ W5.heap.size) := Lib.hid (Nat.le_trans hO.out.C.size h5.size)
                have hown5 := Lib.hid (own_chg hO.out.own h5 (by simp))
                replace h5 := Lib.hid h5
                go_wp2_with (at_builtin; refine wpList_append_sl rfl (.tmp 47) (.tmp 49) 43 rfl w.heap.size 46 (Value.agg #[.slice none 0 0, .slice none 0 0]) 2 48 Tryd.underlying43 Tryd.info_turn rfl (by decide) _ 0 cs rfl hown5.out _ 1 [.slice none 0 0, .slice none 0 0] rfl hnw0.out (by intro u hu; simp at hu; subst hu; rfl) (0 + 1) rfl (by omega) (by decide) hbs0.out ?_)
                intro A9 c9 w9 hO9 hC9 _
                have hG := Lib.hid (hO.out.push h5.out hO9 hC9)
                obtain ⟨g3, rfl, hg3⟩ := own_some hO9 (by omega)
                obtain ⟨rr, hrr⟩ : ∃ rr, ts' = rr := ⟨_, rfl⟩
                obtain ⟨tt, htt9⟩ : ∃ tt : Tn, (([] : List UInt8), ([] : List UInt8)) = tt := ⟨_, rfl⟩
                rw [hrr, htt9] at hG
                have hbr : Hid (addB (ts', la') false x = (addLast (rr ++ [tt]) false [x], false)) := Lib.hid (by rw [e9.out, htt9, hrr])
                have hKr : Hid (rr.length = 0) := Lib.hid (by rw [← hrr]; exact hO.out.hk)
                have hGt : Hid (totT (rr ++ [tt]) ≤ 262144) := Lib.hid (by have := htt.out; rw [totT_append, ← hrr, ← htt9]; have e : totT [(([] : List UInt8), ([] : List UInt8))] = 0 := rfl; omega)
                clear hO9 hC9 hown5 hnw0 hbs0 h5 hW5 htt9 hrr
                
                obtain ⟨A0, c0, hcp, hrow⟩ := hG.out.rw.2.1 (0 * 2) tt.1 (by have := flat_get (ts := rr ++ [tt]) (j := 0) (t := tt) (by rw [← hKr.out]; simp); exact this.1)
                obtain ⟨z, hz⟩ : ∃ z, tt.1 = z := ⟨_, rfl⟩
                rw [hz] at hcp hrow
                have hzl : z.length ≤ 262144 := by
                  have h1 := hGt.out
                  rw [totT_append] at h1
                  unfold totT at h1
                  simp only [List.map_cons, List.map_nil, List.sum_cons, List.sum_nil] at h1
                  rw [← hz]
                  omega
                have zz := (own_cell hG.out.own hcp).1
                have q2 : w9.drew.cell? ⟨g3, 0 * 2, none⟩ = some (.slice A0 z.length c0) := zz
                have x2d : w9.drew.cell? ⟨b, o + i * 3 + 2, none⟩ = some (.slice (some ⟨by', oy, none⟩) y.length c') := hG.out.C.cell x2.out (by simp)
                have ycd : w9.drew.cell? ⟨by', oy + j, none⟩ = some (.int .u8 x.toNat) := hG.out.C.cell hyc.out (by simp)
                have q3 : ((w9.alloc (.cells #[.int .u8 x.toNat] 5 (0, 0))).drew).cell? ⟨g3, 0 * 2, none⟩ = some (.slice A0 z.length c0) := (((Chg.refl [] w9).alloc _).drew).cell zz (by simp)
                have hC5 : Chg [] w9 ((w9.alloc (.cells #[.int .u8 x.toNat] 5 (0, 0))).drew) := ((Chg.refl [] w9).alloc _).drew
                have hr5 := Lib.hid (own_chg hrow hC5 (by simp))
                have hnw : Hid (Sl ((w9.alloc (.cells #[.int .u8 x.toNat] 5 (0, 0))).drew) 1 (.slice (some ⟨w9.heap.size, 0, none⟩) 1 1) 1 [.int .u8 x.toNat]) := Lib.hid ((sl_new w9 [.int .u8 x.toNat] 5 1 rfl (by decide)).chg ((Chg.refl [] _).drew) (by simp))
                have hbs := Lib.hid (Nat.le_trans hG.out.C.size hC5.size)
                have hi1 : (j : Int) < (y.length : Int) := by omega
                have hi2 : (i : Int) < (n : Int) := by omega
                have hi3 : (0 : Int) < ((0 + 1 : Nat) : Int) := by omega
                have hi4 : (0 : Int) < (0 : Int) + 1 := by omega
                have hwk := IntWalk.i64_in (0 : Int) (by omega)
                replace hC5 := Lib.hid hC5
                replace hcp := Lib.hid hcp
                replace hz := Lib.hid hz
                have hend : Hid (addB (ts', la') false x = (addLast (rr ++ [tt]) false [x], false)) := hbr
                clear zz hrow
                go_wp2_with fail
                refine wp_region_any (by kernel_rfl) ?_
                (try (change wpAny _ _ _ _ _ _ _ (World.drew _)))
                refine wpAny_take (i := 0) (v := ?_) rfl (by kernel_rfl) (by kernel_rfl) (by kernel_rfl) (fun _ _ _ h => h) (Or.inl ⟨by kernel_rfl, ?_⟩) ?_
                rotate_left
                · (intro w; go_simp; try with_reducible rfl)
                change wpAny _ _ _ _ _ _ (Act.put _ (some 56) _) _
                (try simp only [Act.put, List.setIfInBounds_toArray, List.set_cons_zero, List.set_cons_succ])
                refine wpAny_take (i := 1) (v := ?_) rfl (by kernel_rfl) (by kernel_rfl) (by kernel_rfl) (fun _ _ _ h => h) (Or.inl ⟨by kernel_rfl, ?_⟩) ?_
                rotate_left
                · (intro w; go_simp; try with_reducible rfl)
                change wpAny _ _ _ _ _ _ (Act.put _ (some 57) _) _
                (try simp only [Act.put, List.setIfInBounds_toArray, List.set_cons_zero, List.set_cons_succ])
                refine wpAny_take (i := 2) (v := ?_) rfl (by kernel_rfl) (by kernel_rfl) (by kernel_rfl) (fun _ _ _ h => h) (Or.inl ⟨by kernel_rfl, ?_⟩) ?_
                rotate_left
                · (intro w; go_simp; try with_reducible rfl)
                change wpAny _ _ _ _ _ _ (Act.put _ (some 58) _) _
                (try simp only [Act.put, List.setIfInBounds_toArray, List.set_cons_zero, List.set_cons_succ])
                refine wpAny_take (i := 3) (v := ?_) rfl (by kernel_rfl) (by kernel_rfl) (by kernel_rfl) (fun _ _ _ h => h) (Or.inl ⟨by kernel_rfl, ?_⟩) ?_
                rotate_left
                · (intro w; go_simp; try with_reducible rfl)
                change wpAny _ _ _ _ _ _ (Act.put _ (some 59) _) _
                (try simp only [Act.put, List.setIfInBounds_toArray, List.set_cons_zero, List.set_cons_succ])
                refine wpAny_take (i := 4) (v := ?_) rfl (by kernel_rfl) (by kernel_rfl) (by kernel_rfl) (fun _ _ _ h => h) (Or.inl ⟨by kernel_rfl, ?_⟩) ?_
                rotate_left
                · (intro w; go_simp; try with_reducible rfl)
                change wpAny _ _ _ _ _ _ (Act.put _ (some 60) _) _
                (try simp only [Act.put, List.setIfInBounds_toArray, List.set_cons_zero, List.set_cons_succ])
                refine wpAny_take (i := 5) (v := ?_) rfl (by kernel_rfl) (by kernel_rfl) (by kernel_rfl) (fun _ _ _ h => h) (Or.inl ⟨by kernel_rfl, ?_⟩) ?_
                rotate_left
                · (intro w; go_simp; try with_reducible rfl)
                change wpAny _ _ _ _ _ _ (Act.put _ (some 61) _) _
                (try simp only [Act.put, List.setIfInBounds_toArray, List.set_cons_zero, List.set_cons_succ])
                refine wpAny_take (i := 7) (v := ?_) rfl (by kernel_rfl) (by kernel_rfl) (by kernel_rfl) (fun _ _ _ h => h) (Or.inl ⟨by kernel_rfl, ?_⟩) ?_
                rotate_left
                · (intro w; go_simp; try with_reducible rfl)
                change wpAny _ _ _ _ _ _ (Act.put _ (some 63) _) _
                (try simp only [Act.put, List.setIfInBounds_toArray, List.set_cons_zero, List.set_cons_succ])
                refine wpAny_take (i := 8) (v := ?_) rfl (by kernel_rfl) (by kernel_rfl) (by kernel_rfl) (fun _ _ _ h => h) (Or.inl ⟨by kernel_rfl, ?_⟩) ?_
                rotate_left
                · (intro w; go_simp; try with_reducible rfl)
                change wpAny _ _ _ _ _ _ (Act.put _ (some 64) _) _
                (try simp only [Act.put, List.setIfInBounds_toArray, List.set_cons_zero, List.set_cons_succ])
                refine wpAny_take (i := 9) (v := ?_) rfl (by kernel_rfl) (by kernel_rfl) (by kernel_rfl) (fun _ _ _ h => h) (Or.inl ⟨by kernel_rfl, ?_⟩) ?_
                rotate_left
                · (intro w; go_simp; try with_reducible rfl)
                change wpAny _ _ _ _ _ _ (Act.put _ (some 65) _) _
                (try simp only [Act.put, List.setIfInBounds_toArray, List.set_cons_zero, List.set_cons_succ])
                refine wpAny_take (i := 10) (v := ?_) rfl (by kernel_rfl) (by kernel_rfl) (by kernel_rfl) (fun _ _ _ h => h) (Or.inl ⟨by kernel_rfl, ?_⟩) ?_
                rotate_left
                · (intro w; go_simp; try with_reducible rfl)
                change wpAny _ _ _ _ _ _ (Act.put _ (some 66) _) _
                (try simp only [Act.put, List.setIfInBounds_toArray, List.set_cons_zero, List.set_cons_succ])
                refine wpAny_take (i := 12) (v := ?_) rfl (by kernel_rfl) (by kernel_rfl) (by kernel_rfl) (fun _ _ _ h => h) (Or.inl ⟨by kernel_rfl, ?_⟩) ?_
                rotate_left
                · (intro w; go_simp; try with_reducible rfl)
                change wpAny _ _ _ _ _ _ (Act.put _ (some 68) _) _
                (try simp only [Act.put, List.setIfInBounds_toArray, List.set_cons_zero, List.set_cons_succ])
                refine wpAny_ready (rs := [6, 11]) (by kernel_rfl) (by simp) ?_
                refine AllReady.cons rfl (fun K hK => ?_) ?_
                · go_simp
                  (try (refine hK _ _ ?_; clear hK K))
                  (try simp only [Act.put, List.setIfInBounds_toArray, List.set_cons_zero, List.set_cons_succ])
                  refine wpAny_ready (rs := [11]) (by kernel_rfl) (by simp) ?_
                  refine AllReady.cons rfl (fun K hK => ?_) ?_
                  · go_simp
                    (try (refine hK _ _ ?_; clear hK K))
                    (try simp only [Act.put, List.setIfInBounds_toArray, List.set_cons_zero, List.set_cons_succ])
                    refine wpAny_take (i := 13) (v := ?_) rfl (by kernel_rfl) (by kernel_rfl) (by kernel_rfl) (fun _ _ _ h => h) (Or.inl ⟨by kernel_rfl, ?_⟩) ?_
                    rotate_left
                    · (intro w; go_simp; try with_reducible rfl)
                    change wpAny _ _ _ _ _ _ (Act.put _ (some 69) _) _
                    (try simp only [Act.put, List.setIfInBounds_toArray, List.set_cons_zero, List.set_cons_succ])
                    refine wpAny_ready (rs := [14]) (by kernel_rfl) (by simp) ?_
                    refine AllReady.cons rfl (fun K hK => ?_) ?_
                    · go_simp
                      (try (refine hK _ _ ?_; clear hK K))
                      (try simp only [Act.put, List.setIfInBounds_toArray, List.set_cons_zero, List.set_cons_succ])
                      refine wpAny_ready (rs := [15]) (by kernel_rfl) (by simp) ?_
                      refine AllReady.cons rfl (fun K hK => ?_) ?_
                      · go_simp
                        (try (refine hK _ _ ?_; clear hK K))
                        (try simp only [Act.put, List.setIfInBounds_toArray, List.set_cons_zero, List.set_cons_succ])
                        refine wpAny_ready (rs := [16]) (by kernel_rfl) (by simp) ?_
                        refine AllReady.cons rfl (fun K hK => ?_) ?_
                        · (refine step_append_sl rfl (.tmp 62) (.tmp 71) 35 rfl w.heap.size 5 (.int .u8 0) 1 1 Tryd.underlying35 Tryd.info_u8 rfl (by decide) (.slice A0 z.length c0) z.length (cellsOf .u8 (ns z)) hr5.out rfl _ 1 [.int .u8 x.toNat] hnw.out rfl (by intro u hu; simp at hu; subst hu; rfl) (z.length + 1) rfl (by omega) (by decide) hbs.out ?_; intro A6 c6 w6 hO6 hC6 hat; obtain ⟨⟨s0, s1⟩, hMn⟩ := hG.out.grow (d := false) (x := x) hKr.out (show (if false then tt.2 else tt.1) = z by simp only [Bool.false_eq_true, if_false]; exact hz.out) (show 0 * 2 + (if false then 1 else 0) = 0 * 2 by simp only [Bool.false_eq_true, if_false, Nat.add_zero]) hcp.out hC5.out hO6 hC6 hat; replace hMn := Lib.hid hMn; clear hO6 hC6 hat; refine hK _ _ ?_; clear hK K)
                          (try simp only [Act.put, List.setIfInBounds_toArray, List.set_cons_zero, List.set_cons_succ])
                          refine wpAny_take (i := 17) (v := ?_) rfl (by kernel_rfl) (by kernel_rfl) (by kernel_rfl) (fun _ _ _ h => h) (Or.inl ⟨by kernel_rfl, ?_⟩) ?_
                          rotate_left
                          · (intro w; go_simp; try with_reducible rfl)
                          change wpAny _ _ _ _ _ _ (Act.put _ (some 73) _) _
                          (try simp only [Act.put, List.setIfInBounds_toArray, List.set_cons_zero, List.set_cons_succ])
                          refine wpAny_take (i := 18) (v := ?_) rfl (by kernel_rfl) (by kernel_rfl) (by kernel_rfl) (fun _ _ _ h => h) (Or.inl ⟨by kernel_rfl, ?_⟩) ?_
                          rotate_left
                          · (intro w; go_simp; try with_reducible rfl)
                          change wpAny _ _ _ _ _ _ (Act.put _ (some 74) _) _
                          (try simp only [Act.put, List.setIfInBounds_toArray, List.set_cons_zero, List.set_cons_succ])
                          refine wpAny_ready (rs := [19]) (by kernel_rfl) (by simp) ?_
                          refine AllReady.cons rfl (fun K hK => ?_) ?_
                          · go_simp
                            (try (refine hK _ _ ?_; clear hK K))
                            (try simp only [Act.put, List.setIfInBounds_toArray, List.set_cons_zero, List.set_cons_succ])
                            refine wpAny_done (by kernel_rfl) ?_ _
                            (try simp only [Act.put, List.setIfInBounds_toArray, List.set_cons_zero, List.set_cons_succ])
                            clear q2 q3 x2d ycd s0 s1 hr5 hnw hbs hC5 hG
                            go_wp2_with fail
                            go_roundg (y.length - (j + 1))
                            case measure => omega
                            case rel => exact ⟨j + 1, 0 + 1, _, c9, _, addLast (rr ++ [tt]) false [x], false, by go_num, rfl, rfl, by omega, rfl, by omega, Lib.hid (by rw [hst3.out]; exact hend.out), Lib.hid (by have := htt3.out.1; rw [hend.out] at this; exact this), hMn⟩
                          exact AllReady.nil
                        exact AllReady.nil
                      exact AllReady.nil
                    exact AllReady.nil
                  exact AllReady.nil
                refine AllReady.cons rfl (fun K hK => ?_) ?_
                · go_simp
                  (try (refine hK _ _ ?_; clear hK K))
                  (try simp only [Act.put, List.setIfInBounds_toArray, List.set_cons_zero, List.set_cons_succ])
                  refine wpAny_take (i := 13) (v := ?_) rfl (by kernel_rfl) (by kernel_rfl) (by kernel_rfl) (fun _ _ _ h => h) (Or.inl ⟨by kernel_rfl, ?_⟩) ?_
                  rotate_left
                  · (intro w; go_simp; try with_reducible rfl)
                  change wpAny _ _ _ _ _ _ (Act.put _ (some 69) _) _
                  (try simp only [Act.put, List.setIfInBounds_toArray, List.set_cons_zero, List.set_cons_succ])
                  refine wpAny_ready (rs := [6, 14]) (by kernel_rfl) (by simp) ?_
                  refine AllReady.cons rfl (fun K hK => ?_) ?_
                  · go_simp
                    (try (refine hK _ _ ?_; clear hK K))
                    (try simp only [Act.put, List.setIfInBounds_toArray, List.set_cons_zero, List.set_cons_succ])
                    refine wpAny_ready (rs := [14]) (by kernel_rfl) (by simp) ?_
                    refine AllReady.cons rfl (fun K hK => ?_) ?_
                    · go_simp
                      (try (refine hK _ _ ?_; clear hK K))
                      (try simp only [Act.put, List.setIfInBounds_toArray, List.set_cons_zero, List.set_cons_succ])
                      refine wpAny_ready (rs := [15]) (by kernel_rfl) (by simp) ?_
                      refine AllReady.cons rfl (fun K hK => ?_) ?_
                      · go_simp
                        (try (refine hK _ _ ?_; clear hK K))
                        (try simp only [Act.put, List.setIfInBounds_toArray, List.set_cons_zero, List.set_cons_succ])
                        refine wpAny_ready (rs := [16]) (by kernel_rfl) (by simp) ?_
                        refine AllReady.cons rfl (fun K hK => ?_) ?_
                        · (refine step_append_sl rfl (.tmp 62) (.tmp 71) 35 rfl w.heap.size 5 (.int .u8 0) 1 1 Tryd.underlying35 Tryd.info_u8 rfl (by decide) (.slice A0 z.length c0) z.length (cellsOf .u8 (ns z)) hr5.out rfl _ 1 [.int .u8 x.toNat] hnw.out rfl (by intro u hu; simp at hu; subst hu; rfl) (z.length + 1) rfl (by omega) (by decide) hbs.out ?_; intro A6 c6 w6 hO6 hC6 hat; obtain ⟨⟨s0, s1⟩, hMn⟩ := hG.out.grow (d := false) (x := x) hKr.out (show (if false then tt.2 else tt.1) = z by simp only [Bool.false_eq_true, if_false]; exact hz.out) (show 0 * 2 + (if false then 1 else 0) = 0 * 2 by simp only [Bool.false_eq_true, if_false, Nat.add_zero]) hcp.out hC5.out hO6 hC6 hat; replace hMn := Lib.hid hMn; clear hO6 hC6 hat; refine hK _ _ ?_; clear hK K)
                          (try simp only [Act.put, List.setIfInBounds_toArray, List.set_cons_zero, List.set_cons_succ])
                          refine wpAny_take (i := 17) (v := ?_) rfl (by kernel_rfl) (by kernel_rfl) (by kernel_rfl) (fun _ _ _ h => h) (Or.inl ⟨by kernel_rfl, ?_⟩) ?_
                          rotate_left
                          · (intro w; go_simp; try with_reducible rfl)
                          change wpAny _ _ _ _ _ _ (Act.put _ (some 73) _) _
                          (try simp only [Act.put, List.setIfInBounds_toArray, List.set_cons_zero, List.set_cons_succ])
                          refine wpAny_take (i := 18) (v := ?_) rfl (by kernel_rfl) (by kernel_rfl) (by kernel_rfl) (fun _ _ _ h => h) (Or.inl ⟨by kernel_rfl, ?_⟩) ?_
                          rotate_left
                          · (intro w; go_simp; try with_reducible rfl)
                          change wpAny _ _ _ _ _ _ (Act.put _ (some 74) _) _
                          (try simp only [Act.put, List.setIfInBounds_toArray, List.set_cons_zero, List.set_cons_succ])
                          refine wpAny_ready (rs := [19]) (by kernel_rfl) (by simp) ?_
                          refine AllReady.cons rfl (fun K hK => ?_) ?_
                          · go_simp
                            (try (refine hK _ _ ?_; clear hK K))
                            (try simp only [Act.put, List.setIfInBounds_toArray, List.set_cons_zero, List.set_cons_succ])
                            refine wpAny_done (by kernel_rfl) ?_ _
                            (try simp only [Act.put, List.setIfInBounds_toArray, List.set_cons_zero, List.set_cons_succ])
                            clear q2 q3 x2d ycd s0 s1 hr5 hnw hbs hC5 hG
                            go_wp2_with fail
                            go_roundg (y.length - (j + 1))
                            case measure => omega
                            case rel => exact ⟨j + 1, 0 + 1, _, c9, _, addLast (rr ++ [tt]) false [x], false, by go_num, rfl, rfl, by omega, rfl, by omega, Lib.hid (by rw [hst3.out]; exact hend.out), Lib.hid (by have := htt3.out.1; rw [hend.out] at this; exact this), hMn⟩
                          exact AllReady.nil
                        exact AllReady.nil
                      exact AllReady.nil
                    exact AllReady.nil
                  refine AllReady.cons rfl (fun K hK => ?_) ?_
                  · go_simp
                    (try (refine hK _ _ ?_; clear hK K))
                    (try simp only [Act.put, List.setIfInBounds_toArray, List.set_cons_zero, List.set_cons_succ])
                    refine wpAny_ready (rs := [6, 15]) (by kernel_rfl) (by simp) ?_
                    refine AllReady.cons rfl (fun K hK => ?_) ?_
                    · go_simp
                      (try (refine hK _ _ ?_; clear hK K))
                      (try simp only [Act.put, List.setIfInBounds_toArray, List.set_cons_zero, List.set_cons_succ])
                      refine wpAny_ready (rs := [15]) (by kernel_rfl) (by simp) ?_
                      refine AllReady.cons rfl (fun K hK => ?_) ?_
                      · go_simp
                        (try (refine hK _ _ ?_; clear hK K))
                        (try simp only [Act.put, List.setIfInBounds_toArray, List.set_cons_zero, List.set_cons_succ])
                        refine wpAny_ready (rs := [16]) (by kernel_rfl) (by simp) ?_
                        refine AllReady.cons rfl (fun K hK => ?_) ?_
                        · (refine step_append_sl rfl (.tmp 62) (.tmp 71) 35 rfl w.heap.size 5 (.int .u8 0) 1 1 Tryd.underlying35 Tryd.info_u8 rfl (by decide) (.slice A0 z.length c0) z.length (cellsOf .u8 (ns z)) hr5.out rfl _ 1 [.int .u8 x.toNat] hnw.out rfl (by intro u hu; simp at hu; subst hu; rfl) (z.length + 1) rfl (by omega) (by decide) hbs.out ?_; intro A6 c6 w6 hO6 hC6 hat; obtain ⟨⟨s0, s1⟩, hMn⟩ := hG.out.grow (d := false) (x := x) hKr.out (show (if false then tt.2 else tt.1) = z by simp only [Bool.false_eq_true, if_false]; exact hz.out) (show 0 * 2 + (if false then 1 else 0) = 0 * 2 by simp only [Bool.false_eq_true, if_false, Nat.add_zero]) hcp.out hC5.out hO6 hC6 hat; replace hMn := Lib.hid hMn; clear hO6 hC6 hat; refine hK _ _ ?_; clear hK K)
                          (try simp only [Act.put, List.setIfInBounds_toArray, List.set_cons_zero, List.set_cons_succ])
                          refine wpAny_take (i := 17) (v := ?_) rfl (by kernel_rfl) (by kernel_rfl) (by kernel_rfl) (fun _ _ _ h => h) (Or.inl ⟨by kernel_rfl, ?_⟩) ?_
                          rotate_left
                          · (intro w; go_simp; try with_reducible rfl)
                          change wpAny _ _ _ _ _ _ (Act.put _ (some 73) _) _
                          (try simp only [Act.put, List.setIfInBounds_toArray, List.set_cons_zero, List.set_cons_succ])
                          refine wpAny_take (i := 18) (v := ?_) rfl (by kernel_rfl) (by kernel_rfl) (by kernel_rfl) (fun _ _ _ h => h) (Or.inl ⟨by kernel_rfl, ?_⟩) ?_
                          rotate_left
                          · (intro w; go_simp; try with_reducible rfl)
                          change wpAny _ _ _ _ _ _ (Act.put _ (some 74) _) _
                          (try simp only [Act.put, List.setIfInBounds_toArray, List.set_cons_zero, List.set_cons_succ])
                          refine wpAny_ready (rs := [19]) (by kernel_rfl) (by simp) ?_
                          refine AllReady.cons rfl (fun K hK => ?_) ?_
                          · go_simp
                            (try (refine hK _ _ ?_; clear hK K))
                            (try simp only [Act.put, List.setIfInBounds_toArray, List.set_cons_zero, List.set_cons_succ])
                            refine wpAny_done (by kernel_rfl) ?_ _
                            (try simp only [Act.put, List.setIfInBounds_toArray, List.set_cons_zero, List.set_cons_succ])
                            clear q2 q3 x2d ycd s0 s1 hr5 hnw hbs hC5 hG
                            go_wp2_with fail
                            go_roundg (y.length - (j + 1))
                            case measure => omega
                            case rel => exact ⟨j + 1, 0 + 1, _, c9, _, addLast (rr ++ [tt]) false [x], false, by go_num, rfl, rfl, by omega, rfl, by omega, Lib.hid (by rw [hst3.out]; exact hend.out), Lib.hid (by have := htt3.out.1; rw [hend.out] at this; exact this), hMn⟩
                          exact AllReady.nil
                        exact AllReady.nil
                      exact AllReady.nil
                    refine AllReady.cons rfl (fun K hK => ?_) ?_
                    · go_simp
                      (try (refine hK _ _ ?_; clear hK K))
                      (try simp only [Act.put, List.setIfInBounds_toArray, List.set_cons_zero, List.set_cons_succ])
                      refine wpAny_ready (rs := [6]) (by kernel_rfl) (by simp) ?_
                      refine AllReady.cons rfl (fun K hK => ?_) ?_
                      · go_simp
                        (try (refine hK _ _ ?_; clear hK K))
                        (try simp only [Act.put, List.setIfInBounds_toArray, List.set_cons_zero, List.set_cons_succ])
                        refine wpAny_ready (rs := [16]) (by kernel_rfl) (by simp) ?_
                        refine AllReady.cons rfl (fun K hK => ?_) ?_
                        · (refine step_append_sl rfl (.tmp 62) (.tmp 71) 35 rfl w.heap.size 5 (.int .u8 0) 1 1 Tryd.underlying35 Tryd.info_u8 rfl (by decide) (.slice A0 z.length c0) z.length (cellsOf .u8 (ns z)) hr5.out rfl _ 1 [.int .u8 x.toNat] hnw.out rfl (by intro u hu; simp at hu; subst hu; rfl) (z.length + 1) rfl (by omega) (by decide) hbs.out ?_; intro A6 c6 w6 hO6 hC6 hat; obtain ⟨⟨s0, s1⟩, hMn⟩ := hG.out.grow (d := false) (x := x) hKr.out (show (if false then tt.2 else tt.1) = z by simp only [Bool.false_eq_true, if_false]; exact hz.out) (show 0 * 2 + (if false then 1 else 0) = 0 * 2 by simp only [Bool.false_eq_true, if_false, Nat.add_zero]) hcp.out hC5.out hO6 hC6 hat; replace hMn := Lib.hid hMn; clear hO6 hC6 hat; refine hK _ _ ?_; clear hK K)
                          (try simp only [Act.put, List.setIfInBounds_toArray, List.set_cons_zero, List.set_cons_succ])
                          refine wpAny_take (i := 17) (v := ?_) rfl (by kernel_rfl) (by kernel_rfl) (by kernel_rfl) (fun _ _ _ h => h) (Or.inl ⟨by kernel_rfl, ?_⟩) ?_
                          rotate_left
                          · (intro w; go_simp; try with_reducible rfl)
                          change wpAny _ _ _ _ _ _ (Act.put _ (some 73) _) _
                          (try simp only [Act.put, List.setIfInBounds_toArray, List.set_cons_zero, List.set_cons_succ])
                          refine wpAny_take (i := 18) (v := ?_) rfl (by kernel_rfl) (by kernel_rfl) (by kernel_rfl) (fun _ _ _ h => h) (Or.inl ⟨by kernel_rfl, ?_⟩) ?_
                          rotate_left
                          · (intro w; go_simp; try with_reducible rfl)
                          change wpAny _ _ _ _ _ _ (Act.put _ (some 74) _) _
                          (try simp only [Act.put, List.setIfInBounds_toArray, List.set_cons_zero, List.set_cons_succ])
                          refine wpAny_ready (rs := [19]) (by kernel_rfl) (by simp) ?_
                          refine AllReady.cons rfl (fun K hK => ?_) ?_
                          · go_simp
                            (try (refine hK _ _ ?_; clear hK K))
                            (try simp only [Act.put, List.setIfInBounds_toArray, List.set_cons_zero, List.set_cons_succ])
                            refine wpAny_done (by kernel_rfl) ?_ _
                            (try simp only [Act.put, List.setIfInBounds_toArray, List.set_cons_zero, List.set_cons_succ])
                            clear q2 q3 x2d ycd s0 s1 hr5 hnw hbs hC5 hG
                            go_wp2_with fail
                            go_roundg (y.length - (j + 1))
                            case measure => omega
                            case rel => exact ⟨j + 1, 0 + 1, _, c9, _, addLast (rr ++ [tt]) false [x], false, by go_num, rfl, rfl, by omega, rfl, by omega, Lib.hid (by rw [hst3.out]; exact hend.out), Lib.hid (by have := htt3.out.1; rw [hend.out] at this; exact this), hMn⟩
                          exact AllReady.nil
                        exact AllReady.nil
                      exact AllReady.nil
                    exact AllReady.nil
                  exact AllReady.nil
                exact AllReady.nil
              · have hk0b : ((k : Int) == 0) = false := by rw [beq_eq_false_iff_ne]; omega
                have hne : ts' ≠ [] := by rintro rfl; have := hO.out.hk; simp at this; omega
                cases hla : la' with
                | false =>
                  subst hla
                  have hcond : Hid (¬ (ts' = [] ∨ ((false : Bool) = false ∧ (false : Bool) = true))) := Lib.hid (by rintro (h | ⟨-, h⟩); exact hne h; cases h)
                  obtain ⟨rr, tt, rfl⟩ : ∃ (rr : List Tn) (tt : Tn), ts' = rr ++ [tt] := ⟨ts'.dropLast, ts'.getLast hne, (List.dropLast_concat_getLast hne).symm⟩
                  obtain rfl : k = rr.length + 1 := by have := hO.out.hk; simp at this; omega
                  obtain ⟨kk, hKr⟩ : ∃ kk, rr.length = kk := ⟨_, rfl⟩
                  rw [hKr] at hO hk hkb hk0 hk0b htt3 ⊢
                  obtain ⟨g3, rfl, hg3⟩ := own_some hO.out.own (by omega)
                  obtain ⟨c9, hc9⟩ : ∃ c9, c3 = c9 := ⟨_, rfl⟩
                  subst hc9
                  have hG := hO
                  replace hKr := Lib.hid hKr
                  have hGt : Hid (totT (rr ++ [tt]) ≤ 262144) := Lib.hid (by have := htt.out; omega)
                  have hbr : Hid (addB (rr ++ [tt], false) false x = (addLast (rr ++ [tt]) false [x], false)) := Lib.hid (by unfold addB; exact congrArg (fun z => (addLast z false [x], false)) (if_neg hcond.out))
                  clear hne
                  
                  obtain ⟨A0, c0, hcp, hrow⟩ := hG.out.rw.2.1 (kk * 2) tt.1 (by have := flat_get (ts := rr ++ [tt]) (j := kk) (t := tt) (by rw [← hKr.out]; simp); exact this.1)
                  obtain ⟨z, hz⟩ : ∃ z, tt.1 = z := ⟨_, rfl⟩
                  rw [hz] at hcp hrow
                  have hzl : z.length ≤ 262144 := by
                    have h1 := hGt.out
                    rw [totT_append] at h1
                    unfold totT at h1
                    simp only [List.map_cons, List.map_nil, List.sum_cons, List.sum_nil] at h1
                    rw [← hz]
                    omega
                  have zz := (own_cell hG.out.own hcp).1
                  have q2 : wr.drew.cell? ⟨g3, kk * 2, none⟩ = some (.slice A0 z.length c0) := zz
                  have x2d : wr.drew.cell? ⟨b, o + i * 3 + 2, none⟩ = some (.slice (some ⟨by', oy, none⟩) y.length c') := hG.out.C.cell x2.out (by simp)
                  have ycd : wr.drew.cell? ⟨by', oy + j, none⟩ = some (.int .u8 x.toNat) := hG.out.C.cell hyc.out (by simp)
                  have q3 : ((wr.alloc (.cells #[.int .u8 x.toNat] 5 (0, 0))).drew).cell? ⟨g3, kk * 2, none⟩ = some (.slice A0 z.length c0) := (((Chg.refl [] wr).alloc _).drew).cell zz (by simp)
                  have hC5 : Chg [] wr ((wr.alloc (.cells #[.int .u8 x.toNat] 5 (0, 0))).drew) := ((Chg.refl [] wr).alloc _).drew
                  have hr5 := Lib.hid (own_chg hrow hC5 (by simp))
                  have hnw : Hid (Sl ((wr.alloc (.cells #[.int .u8 x.toNat] 5 (0, 0))).drew) 1 (.slice (some ⟨wr.heap.size, 0, none⟩) 1 1) 1 [.int .u8 x.toNat]) := Lib.hid ((sl_new wr [.int .u8 x.toNat] 5 1 rfl (by decide)).chg ((Chg.refl [] _).drew) (by simp))
                  have hbs := Lib.hid (Nat.le_trans hG.out.C.size hC5.size)
                  have hi1 : (j : Int) < (y.length : Int) := by omega
                  have hi2 : (i : Int) < (n : Int) := by omega
                  have hi3 : (kk : Int) < ((kk + 1 : Nat) : Int) := by omega
                  have hi4 : (kk : Int) < (kk : Int) + 1 := by omega
                  have hwk := IntWalk.i64_in (kk : Int) (by omega)
                  replace hC5 := Lib.hid hC5
                  replace hcp := Lib.hid hcp
                  replace hz := Lib.hid hz
                  have hend : Hid (addB (rr ++ [tt], false) false x = (addLast (rr ++ [tt]) false [x], false)) := hbr
                  clear zz hrow
                  go_wp2_with fail
                  refine wp_region_any (by kernel_rfl) ?_
                  (try (change wpAny _ _ _ _ _ _ _ (World.drew _)))
                  refine wpAny_take (i := 0) (v := ?_) rfl (by kernel_rfl) (by kernel_rfl) (by kernel_rfl) (fun _ _ _ h => h) (Or.inl ⟨by kernel_rfl, ?_⟩) ?_
                  rotate_left
                  · (intro w; go_simp; try with_reducible rfl)
                  change wpAny _ _ _ _ _ _ (Act.put _ (some 56) _) _
                  (try simp only [Act.put, List.setIfInBounds_toArray, List.set_cons_zero, List.set_cons_succ])
                  refine wpAny_take (i := 1) (v := ?_) rfl (by kernel_rfl) (by kernel_rfl) (by kernel_rfl) (fun _ _ _ h => h) (Or.inl ⟨by kernel_rfl, ?_⟩) ?_
                  rotate_left
                  · (intro w; go_simp; try with_reducible rfl)
                  change wpAny _ _ _ _ _ _ (Act.put _ (some 57) _) _
                  (try simp only [Act.put, List.setIfInBounds_toArray, List.set_cons_zero, List.set_cons_succ])
                  refine wpAny_take (i := 2) (v := ?_) rfl (by kernel_rfl) (by kernel_rfl) (by kernel_rfl) (fun _ _ _ h => h) (Or.inl ⟨by kernel_rfl, ?_⟩) ?_
                  rotate_left
                  · (intro w; go_simp; try with_reducible rfl)
                  change wpAny _ _ _ _ _ _ (Act.put _ (some 58) _) _
                  (try simp only [Act.put, List.setIfInBounds_toArray, List.set_cons_zero, List.set_cons_succ])
                  refine wpAny_take (i := 3) (v := ?_) rfl (by kernel_rfl) (by kernel_rfl) (by kernel_rfl) (fun _ _ _ h => h) (Or.inl ⟨by kernel_rfl, ?_⟩) ?_
                  rotate_left
                  · (intro w; go_simp; try with_reducible rfl)
                  change wpAny _ _ _ _ _ _ (Act.put _ (some 59) _) _
                  (try simp only [Act.put, List.setIfInBounds_toArray, List.set_cons_zero, List.set_cons_succ])
                  refine wpAny_take (i := 4) (v := ?_) rfl (by kernel_rfl) (by kernel_rfl) (by kernel_rfl) (fun _ _ _ h => h) (Or.inl ⟨by kernel_rfl, ?_⟩) ?_
                  rotate_left
                  · (intro w; go_simp; try with_reducible rfl)
                  change wpAny _ _ _ _ _ _ (Act.put _ (some 60) _) _
                  (try simp only [Act.put, List.setIfInBounds_toArray, List.set_cons_zero, List.set_cons_succ])
                  refine wpAny_take (i := 5) (v := ?_) rfl (by kernel_rfl) (by kernel_rfl) (by kernel_rfl) (fun _ _ _ h => h) (Or.inl ⟨by kernel_rfl, ?_⟩) ?_
                  rotate_left
                  · (intro w; go_simp; try with_reducible rfl)
                  change wpAny _ _ _ _ _ _ (Act.put _ (some 61) _) _
                  (try simp only [Act.put, List.setIfInBounds_toArray, List.set_cons_zero, List.set_cons_succ])
                  refine wpAny_take (i := 7) (v := ?_) rfl (by kernel_rfl) (by kernel_rfl) (by kernel_rfl) (fun _ _ _ h => h) (Or.inl ⟨by kernel_rfl, ?_⟩) ?_
                  rotate_left
                  · (intro w; go_simp; try with_reducible rfl)
                  change wpAny _ _ _ _ _ _ (Act.put _ (some 63) _) _
                  (try simp only [Act.put, List.setIfInBounds_toArray, List.set_cons_zero, List.set_cons_succ])
                  refine wpAny_take (i := 8) (v := ?_) rfl (by kernel_rfl) (by kernel_rfl) (by kernel_rfl) (fun _ _ _ h => h) (Or.inl ⟨by kernel_rfl, ?_⟩) ?_
                  rotate_left
                  · (intro w; go_simp; try with_reducible rfl)
                  change wpAny _ _ _ _ _ _ (Act.put _ (some 64) _) _
                  (try simp only [Act.put, List.setIfInBounds_toArray, List.set_cons_zero, List.set_cons_succ])
                  refine wpAny_take (i := 9) (v := ?_) rfl (by kernel_rfl) (by kernel_rfl) (by kernel_rfl) (fun _ _ _ h => h) (Or.inl ⟨by kernel_rfl, ?_⟩) ?_
                  rotate_left
                  · (intro w; go_simp; try with_reducible rfl)
                  change wpAny _ _ _ _ _ _ (Act.put _ (some 65) _) _
                  (try simp only [Act.put, List.setIfInBounds_toArray, List.set_cons_zero, List.set_cons_succ])
                  refine wpAny_take (i := 10) (v := ?_) rfl (by kernel_rfl) (by kernel_rfl) (by kernel_rfl) (fun _ _ _ h => h) (Or.inl ⟨by kernel_rfl, ?_⟩) ?_
                  rotate_left
                  · (intro w; go_simp; try with_reducible rfl)
                  change wpAny _ _ _ _ _ _ (Act.put _ (some 66) _) _
                  (try simp only [Act.put, List.setIfInBounds_toArray, List.set_cons_zero, List.set_cons_succ])
                  refine wpAny_take (i := 12) (v := ?_) rfl (by kernel_rfl) (by kernel_rfl) (by kernel_rfl) (fun _ _ _ h => h) (Or.inl ⟨by kernel_rfl, ?_⟩) ?_
                  rotate_left
                  · (intro w; go_simp; try with_reducible rfl)
                  change wpAny _ _ _ _ _ _ (Act.put _ (some 68) _) _
                  (try simp only [Act.put, List.setIfInBounds_toArray, List.set_cons_zero, List.set_cons_succ])
                  refine wpAny_ready (rs := [6, 11]) (by kernel_rfl) (by simp) ?_
                  refine AllReady.cons rfl (fun K hK => ?_) ?_
                  · go_simp
                    (try (refine hK _ _ ?_; clear hK K))
                    (try simp only [Act.put, List.setIfInBounds_toArray, List.set_cons_zero, List.set_cons_succ])
                    refine wpAny_ready (rs := [11]) (by kernel_rfl) (by simp) ?_
                    refine AllReady.cons rfl (fun K hK => ?_) ?_
                    · go_simp
                      (try (refine hK _ _ ?_; clear hK K))
                      (try simp only [Act.put, List.setIfInBounds_toArray, List.set_cons_zero, List.set_cons_succ])
                      refine wpAny_take (i := 13) (v := ?_) rfl (by kernel_rfl) (by kernel_rfl) (by kernel_rfl) (fun _ _ _ h => h) (Or.inl ⟨by kernel_rfl, ?_⟩) ?_
                      rotate_left
                      · (intro w; go_simp; try with_reducible rfl)
                      change wpAny _ _ _ _ _ _ (Act.put _ (some 69) _) _
                      (try simp only [Act.put, List.setIfInBounds_toArray, List.set_cons_zero, List.set_cons_succ])
                      refine wpAny_ready (rs := [14]) (by kernel_rfl) (by simp) ?_
                      refine AllReady.cons rfl (fun K hK => ?_) ?_
                      · go_simp
                        (try (refine hK _ _ ?_; clear hK K))
                        (try simp only [Act.put, List.setIfInBounds_toArray, List.set_cons_zero, List.set_cons_succ])
                        refine wpAny_ready (rs := [15]) (by kernel_rfl) (by simp) ?_
                        refine AllReady.cons rfl (fun K hK => ?_) ?_
                        · go_simp
                          (try (refine hK _ _ ?_; clear hK K))
                          (try simp only [Act.put, List.setIfInBounds_toArray, List.set_cons_zero, List.set_cons_succ])
                          refine wpAny_ready (rs := [16]) (by kernel_rfl) (by simp) ?_
                          refine AllReady.cons rfl (fun K hK => ?_) ?_
                          · (refine step_append_sl rfl (.tmp 62) (.tmp 71) 35 rfl w.heap.size 5 (.int .u8 0) 1 1 Tryd.underlying35 Tryd.info_u8 rfl (by decide) (.slice A0 z.length c0) z.length (cellsOf .u8 (ns z)) hr5.out rfl _ 1 [.int .u8 x.toNat] hnw.out rfl (by intro u hu; simp at hu; subst hu; rfl) (z.length + 1) rfl (by omega) (by decide) hbs.out ?_; intro A6 c6 w6 hO6 hC6 hat; obtain ⟨⟨s0, s1⟩, hMn⟩ := hG.out.grow (d := false) (x := x) hKr.out (show (if false then tt.2 else tt.1) = z by simp only [Bool.false_eq_true, if_false]; exact hz.out) (show kk * 2 + (if false then 1 else 0) = kk * 2 by simp only [Bool.false_eq_true, if_false, Nat.add_zero]) hcp.out hC5.out hO6 hC6 hat; replace hMn := Lib.hid hMn; clear hO6 hC6 hat; refine hK _ _ ?_; clear hK K)
                            (try simp only [Act.put, List.setIfInBounds_toArray, List.set_cons_zero, List.set_cons_succ])
                            refine wpAny_take (i := 17) (v := ?_) rfl (by kernel_rfl) (by kernel_rfl) (by kernel_rfl) (fun _ _ _ h => h) (Or.inl ⟨by kernel_rfl, ?_⟩) ?_
                            rotate_left
                            · (intro w; go_simp; try with_reducible rfl)
                            change wpAny _ _ _ _ _ _ (Act.put _ (some 73) _) _
                            (try simp only [Act.put, List.setIfInBounds_toArray, List.set_cons_zero, List.set_cons_succ])
                            refine wpAny_take (i := 18) (v := ?_) rfl (by kernel_rfl) (by kernel_rfl) (by kernel_rfl) (fun _ _ _ h => h) (Or.inl ⟨by kernel_rfl, ?_⟩) ?_
                            rotate_left
                            · (intro w; go_simp; try with_reducible rfl)
                            change wpAny _ _ _ _ _ _ (Act.put _ (some 74) _) _
                            (try simp only [Act.put, List.setIfInBounds_toArray, List.set_cons_zero, List.set_cons_succ])
                            refine wpAny_ready (rs := [19]) (by kernel_rfl) (by simp) ?_
                            refine AllReady.cons rfl (fun K hK => ?_) ?_
                            · go_simp
                              (try (refine hK _ _ ?_; clear hK K))
                              (try simp only [Act.put, List.setIfInBounds_toArray, List.set_cons_zero, List.set_cons_succ])
                              refine wpAny_done (by kernel_rfl) ?_ _
                              (try simp only [Act.put, List.setIfInBounds_toArray, List.set_cons_zero, List.set_cons_succ])
                              clear q2 q3 x2d ycd s0 s1 hr5 hnw hbs hC5 hG
                              go_wp2_with fail
                              go_roundg (y.length - (j + 1))
                              case measure => omega
                              case rel => exact ⟨j + 1, kk + 1, _, c3, _, addLast (rr ++ [tt]) false [x], false, by go_num, rfl, rfl, by omega, rfl, by omega, Lib.hid (by rw [hst3.out]; exact hend.out), Lib.hid (by have := htt3.out.1; rw [hend.out] at this; exact this), hMn⟩
                            exact AllReady.nil
                          exact AllReady.nil
                        exact AllReady.nil
                      exact AllReady.nil
                    exact AllReady.nil
                  refine AllReady.cons rfl (fun K hK => ?_) ?_
                  · go_simp
                    (try (refine hK _ _ ?_; clear hK K))
                    (try simp only [Act.put, List.setIfInBounds_toArray, List.set_cons_zero, List.set_cons_succ])
                    refine wpAny_take (i := 13) (v := ?_) rfl (by kernel_rfl) (by kernel_rfl) (by kernel_rfl) (fun _ _ _ h => h) (Or.inl ⟨by kernel_rfl, ?_⟩) ?_
                    rotate_left
                    · (intro w; go_simp; try with_reducible rfl)
                    change wpAny _ _ _ _ _ _ (Act.put _ (some 69) _) _
                    (try simp only [Act.put, List.setIfInBounds_toArray, List.set_cons_zero, List.set_cons_succ])
                    refine wpAny_ready (rs := [6, 14]) (by kernel_rfl) (by simp) ?_
                    refine AllReady.cons rfl (fun K hK => ?_) ?_
                    · go_simp
                      (try (refine hK _ _ ?_; clear hK K))
                      (try simp only [Act.put, List.setIfInBounds_toArray, List.set_cons_zero, List.set_cons_succ])
                      refine wpAny_ready (rs := [14]) (by kernel_rfl) (by simp) ?_
                      refine AllReady.cons rfl (fun K hK => ?_) ?_
                      · go_simp
                        (try (refine hK _ _ ?_; clear hK K))
                        (try simp only [Act.put, List.setIfInBounds_toArray, List.set_cons_zero, List.set_cons_succ])
                        refine wpAny_ready (rs := [15]) (by kernel_rfl) (by simp) ?_
                        refine AllReady.cons rfl (fun K hK => ?_) ?_
                        · go_simp
                          (try (refine hK _ _ ?_; clear hK K))
                          (try simp only [Act.put, List.setIfInBounds_toArray, List.set_cons_zero, List.set_cons_succ])
                          refine wpAny_ready (rs := [16]) (by kernel_rfl) (by simp) ?_
                          refine AllReady.cons rfl (fun K hK => ?_) ?_
                          · (refine step_append_sl rfl (.tmp 62) (.tmp 71) 35 rfl w.heap.size 5 (.int .u8 0) 1 1 Tryd.underlying35 Tryd.info_u8 rfl (by decide) (.slice A0 z.length c0) z.length (cellsOf .u8 (ns z)) hr5.out rfl _ 1 [.int .u8 x.toNat] hnw.out rfl (by intro u hu; simp at hu; subst hu; rfl) (z.length + 1) rfl (by omega) (by decide) hbs.out ?_; intro A6 c6 w6 hO6 hC6 hat; obtain ⟨⟨s0, s1⟩, hMn⟩ := hG.out.grow (d := false) (x := x) hKr.out (show (if false then tt.2 else tt.1) = z by simp only [Bool.false_eq_true, if_false]; exact hz.out) (show kk * 2 + (if false then 1 else 0) = kk * 2 by simp only [Bool.false_eq_true, if_false, Nat.add_zero]) hcp.out hC5.out hO6 hC6 hat; replace hMn := Lib.hid hMn; clear hO6 hC6 hat; refine hK _ _ ?_; clear hK K)
                            (try simp only [Act.put, List.setIfInBounds_toArray, List.set_cons_zero, List.set_cons_succ])
                            refine wpAny_take (i := 17) (v := ?_) rfl (by kernel_rfl) (by kernel_rfl) (by kernel_rfl) (fun _ _ _ h => h) (Or.inl ⟨by kernel_rfl, ?_⟩) ?_
                            rotate_left
                            · (intro w; go_simp; try with_reducible rfl)
                            change wpAny _ _ _ _ _ _ (Act.put _ (some 73) _) _
                            (try simp only [Act.put, List.setIfInBounds_toArray, List.set_cons_zero, List.set_cons_succ])
                            refine wpAny_take (i := 18) (v := ?_) rfl (by kernel_rfl) (by kernel_rfl) (by kernel_rfl) (fun _ _ _ h => h) (Or.inl ⟨by kernel_rfl, ?_⟩) ?_
                            rotate_left
                            · (intro w; go_simp; try with_reducible rfl)
                            change wpAny _ _ _ _ _ _ (Act.put _ (some 74) _) _
                            (try simp only [Act.put, List.setIfInBounds_toArray, List.set_cons_zero, List.set_cons_succ])
                            refine wpAny_ready (rs := [19]) (by kernel_rfl) (by simp) ?_
                            refine AllReady.cons rfl (fun K hK => ?_) ?_
                            · go_simp
                              (try (refine hK _ _ ?_; clear hK K))
                              (try simp only [Act.put, List.setIfInBounds_toArray, List.set_cons_zero, List.set_cons_succ])
                              refine wpAny_done (by kernel_rfl) ?_ _
                              (try simp only [Act.put, List.setIfInBounds_toArray, List.set_cons_zero, List.set_cons_succ])
                              clear q2 q3 x2d ycd s0 s1 hr5 hnw hbs hC5 hG
                              go_wp2_with fail
                              go_roundg (y.length - (j + 1))
                              case measure => omega
                              case rel => exact ⟨j + 1, kk + 1, _, c3, _, addLast (rr ++ [tt]) false [x], false, by go_num, rfl, rfl, by omega, rfl, by omega, Lib.hid (by rw [hst3.out]; exact hend.out), Lib.hid (by have := htt3.out.1; rw [hend.out] at this; exact this), hMn⟩
                            exact AllReady.nil
                          exact AllReady.nil
                        exact AllReady.nil
                      exact AllReady.nil
                    refine AllReady.cons rfl (fun K hK => ?_) ?_
                    · go_simp
                      (try (refine hK _ _ ?_; clear hK K))
                      (try simp only [Act.put, List.setIfInBounds_toArray, List.set_cons_zero, List.set_cons_succ])
                      refine wpAny_ready (rs := [6, 15]) (by kernel_rfl) (by simp) ?_
                      refine AllReady.cons rfl (fun K hK => ?_) ?_
                      · go_simp
                        (try (refine hK _ _ ?_; clear hK K))
                        (try simp only [Act.put, List.setIfInBounds_toArray, List.set_cons_zero, List.set_cons_succ])
                        refine wpAny_ready (rs := [15]) (by kernel_rfl) (by simp) ?_
                        refine AllReady.cons rfl (fun K hK => ?_) ?_
                        · go_simp
                          (try (refine hK _ _ ?_; clear hK K))
                          (try simp only [Act.put, List.setIfInBounds_toArray, List.set_cons_zero, List.set_cons_succ])
                          refine wpAny_ready (rs := [16]) (by kernel_rfl) (by simp) ?_
                          refine AllReady.cons rfl (fun K hK => ?_) ?_
                          · (refine step_append_sl rfl (.tmp 62) (.tmp 71) 35 rfl w.heap.size 5 (.int .u8 0) 1 1 Tryd.underlying35 Tryd.info_u8 rfl (by decide) (.slice A0 z.length c0) z.length (cellsOf .u8 (ns z)) hr5.out rfl _ 1 [.int .u8 x.toNat] hnw.out rfl (by intro u hu; simp at hu; subst hu; rfl) (z.length + 1) rfl (by omega) (by decide) hbs.out ?_; intro A6 c6 w6 hO6 hC6 hat; obtain ⟨⟨s0, s1⟩, hMn⟩ := hG.out.grow (d := false) (x := x) hKr.out (show (if false then tt.2 else tt.1) = z by simp only [Bool.false_eq_true, if_false]; exact hz.out) (show kk * 2 + (if false then 1 else 0) = kk * 2 by simp only [Bool.false_eq_true, if_false, Nat.add_zero]) hcp.out hC5.out hO6 hC6 hat; replace hMn := Lib.hid hMn; clear hO6 hC6 hat; refine hK _ _ ?_; clear hK K)
                            (try simp only [Act.put, List.setIfInBounds_toArray, List.set_cons_zero, List.set_cons_succ])
                            refine wpAny_take (i := 17) (v := ?_) rfl (by kernel_rfl) (by kernel_rfl) (by kernel_rfl) (fun _ _ _ h => h) (Or.inl ⟨by kernel_rfl, ?_⟩) ?_
                            rotate_left
                            · (intro w; go_simp; try with_reducible rfl)
                            change wpAny _ _ _ _ _ _ (Act.put _ (some 73) _) _
                            (try simp only [Act.put, List.setIfInBounds_toArray, List.set_cons_zero, List.set_cons_succ])
                            refine wpAny_take (i := 18) (v := ?_) rfl (by kernel_rfl) (by kernel_rfl) (by kernel_rfl) (fun _ _ _ h => h) (Or.inl ⟨by kernel_rfl, ?_⟩) ?_
                            rotate_left
                            · (intro w; go_simp; try with_reducible rfl)
                            change wpAny _ _ _ _ _ _ (Act.put _ (some 74) _) _
                            (try simp only [Act.put, List.setIfInBounds_toArray, List.set_cons_zero, List.set_cons_succ])
                            refine wpAny_ready (rs := [19]) (by kernel_rfl) (by simp) ?_
                            refine AllReady.cons rfl (fun K hK => ?_) ?_
                            · go_simp
                              (try (refine hK _ _ ?_; clear hK K))
                              (try simp only [Act.put, List.setIfInBounds_toArray, List.set_cons_zero, List.set_cons_succ])
                              refine wpAny_done (by kernel_rfl) ?_ _
                              (try simp only [Act.put, List.setIfInBounds_toArray, List.set_cons_zero, List.set_cons_succ])
                              clear q2 q3 x2d ycd s0 s1 hr5 hnw hbs hC5 hG
                              go_wp2_with fail
                              go_roundg (y.length - (j + 1))
                              case measure => omega
                              case rel => exact ⟨j + 1, kk + 1, _, c3, _, addLast (rr ++ [tt]) false [x], false, by go_num, rfl, rfl, by omega, rfl, by omega, Lib.hid (by rw [hst3.out]; exact hend.out), Lib.hid (by have := htt3.out.1; rw [hend.out] at this; exact this), hMn⟩
                            exact AllReady.nil
                          exact AllReady.nil
                        exact AllReady.nil
                      refine AllReady.cons rfl (fun K hK => ?_) ?_
                      · go_simp
                        (try (refine hK _ _ ?_; clear hK K))
                        (try simp only [Act.put, List.setIfInBounds_toArray, List.set_cons_zero, List.set_cons_succ])
                        refine wpAny_ready (rs := [6]) (by kernel_rfl) (by simp) ?_
                        refine AllReady.cons rfl (fun K hK => ?_) ?_
                        · go_simp
                          (try (refine hK _ _ ?_; clear hK K))
                          (try simp only [Act.put, List.setIfInBounds_toArray, List.set_cons_zero, List.set_cons_succ])
                          refine wpAny_ready (rs := [16]) (by kernel_rfl) (by simp) ?_
                          refine AllReady.cons rfl (fun K hK => ?_) ?_
                          · (refine step_append_sl rfl (.tmp 62) (.tmp 71) 35 rfl w.heap.size 5 (.int .u8 0) 1 1 Tryd.underlying35 Tryd.info_u8 rfl (by decide) (.slice A0 z.length c0) z.length (cellsOf .u8 (ns z)) hr5.out rfl _ 1 [.int .u8 x.toNat] hnw.out rfl (by intro u hu; simp at hu; subst hu; rfl) (z.length + 1) rfl (by omega) (by decide) hbs.out ?_; intro A6 c6 w6 hO6 hC6 hat; obtain ⟨⟨s0, s1⟩, hMn⟩ := hG.out.grow (d := false) (x := x) hKr.out (show (if false then tt.2 else tt.1) = z by simp only [Bool.false_eq_true, if_false]; exact hz.out) (show kk * 2 + (if false then 1 else 0) = kk * 2 by simp only [Bool.false_eq_true, if_false, Nat.add_zero]) hcp.out hC5.out hO6 hC6 hat; replace hMn := Lib.hid hMn; clear hO6 hC6 hat; refine hK _ _ ?_; clear hK K)
                            (try simp only [Act.put, List.setIfInBounds_toArray, List.set_cons_zero, List.set_cons_succ])
                            refine wpAny_take (i := 17) (v := ?_) rfl (by kernel_rfl) (by kernel_rfl) (by kernel_rfl) (fun _ _ _ h => h) (Or.inl ⟨by kernel_rfl, ?_⟩) ?_
                            rotate_left
                            · (intro w; go_simp; try with_reducible rfl)
                            change wpAny _ _ _ _ _ _ (Act.put _ (some 73) _) _
                            (try simp only [Act.put, List.setIfInBounds_toArray, List.set_cons_zero, List.set_cons_succ])
                            refine wpAny_take (i := 18) (v := ?_) rfl (by kernel_rfl) (by kernel_rfl) (by kernel_rfl) (fun _ _ _ h => h) (Or.inl ⟨by kernel_rfl, ?_⟩) ?_
                            rotate_left
                            · (intro w; go_simp; try with_reducible rfl)
                            change wpAny _ _ _ _ _ _ (Act.put _ (some 74) _) _
                            (try simp only [Act.put, List.setIfInBounds_toArray, List.set_cons_zero, List.set_cons_succ])
                            refine wpAny_ready (rs := [19]) (by kernel_rfl) (by simp) ?_
                            refine AllReady.cons rfl (fun K hK => ?_) ?_
                            · go_simp
                              (try (refine hK _ _ ?_; clear hK K))
                              (try simp only [Act.put, List.setIfInBounds_toArray, List.set_cons_zero, List.set_cons_succ])
                              refine wpAny_done (by kernel_rfl) ?_ _
                              (try simp only [Act.put, List.setIfInBounds_toArray, List.set_cons_zero, List.set_cons_succ])
                              clear q2 q3 x2d ycd s0 s1 hr5 hnw hbs hC5 hG
                              go_wp2_with fail
                              go_roundg (y.length - (j + 1))
                              case measure => omega
                              case rel => exact ⟨j + 1, kk + 1, _, c3, _, addLast (rr ++ [tt]) false [x], false, by go_num, rfl, rfl, by omega, rfl, by omega, Lib.hid (by rw [hst3.out]; exact hend.out), Lib.hid (by have := htt3.out.1; rw [hend.out] at this; exact this), hMn⟩
                            exact AllReady.nil
                          exact AllReady.nil
                        exact AllReady.nil
                      exact AllReady.nil
                    exact AllReady.nil
                  exact AllReady.nil
                | true =>
                  subst hla
                  have hcond : Hid (ts' = [] ∨ ((false : Bool) = false ∧ (true : Bool) = true)) := Lib.hid (.inr ⟨rfl, rfl⟩)
                  have e9 : Hid (addB (ts', true) false x = (addLast (ts' ++ [([], [])]) false [x], false)) := Lib.hid (by unfold addB; exact congrArg (fun z => (addLast z false [x], false)) (if_pos hcond.out))
                  obtain ⟨W5, hW5⟩ : ∃ W5, wr.alloc (.cells #[.slice none 0 0, .slice none 0 0] 46 (0, 0)) = W5 := ⟨_, rfl⟩
                  have h5 : Chg [] wr W5 := by rw [← hW5]; exact (Chg.refl [] wr).alloc _
                  have hnw0 : Hid (Sl W5 2 (.slice (some ⟨wr.heap.size, 0, none⟩) 1 1) 1 [.slice none 0 0, .slice none 0 0]) := Lib.hid (by rw [← hW5]; exact sl_new2 wr (.slice none 0 0) (.slice none 0 0) 46)
                  have hbs0 : Hid (w.heap.size ≤ W5.heap.size) := Lib.hid (Nat.le_trans hO.out.C.size h5.size)
                  have hown5 := Lib.hid (own_chg hO.out.own h5 (by simp))
                  replace h5 := Lib.hid h5
                  go_wp2_with (at_builtin; refine wpList_append_sl rfl (.tmp 47) (.tmp 49) 43 rfl w.heap.size 46 (Value.agg #[.slice none 0 0, .slice none 0 0]) 2 48 Tryd.underlying43 Tryd.info_turn rfl (by decide) _ k cs rfl hown5.out _ 1 [.slice none 0 0, .slice none 0 0] rfl hnw0.out (by intro u hu; simp at hu; subst hu; rfl) (k + 1) rfl (by omega) (by decide) hbs0.out ?_)
                  intro A9 c9 w9 hO9 hC9 _
                  have hG := Lib.hid (hO.out.push h5.out hO9 hC9)
                  obtain ⟨g3, rfl, hg3⟩ := own_some hO9 (by omega)
                  obtain ⟨rr, hrr⟩ : ∃ rr, ts' = rr := ⟨_, rfl⟩
                  obtain ⟨tt, htt9⟩ : ∃ tt : Tn, (([] : List UInt8), ([] : List UInt8)) = tt := ⟨_, rfl⟩
                  rw [hrr, htt9] at hG
                  have hbr : Hid (addB (ts', true) false x = (addLast (rr ++ [tt]) false [x], false)) := Lib.hid (by rw [e9.out, htt9, hrr])
                  have hKr : Hid (rr.length = k) := Lib.hid (by rw [← hrr]; exact hO.out.hk)
                  have hGt : Hid (totT (rr ++ [tt]) ≤ 262144) := Lib.hid (by have := htt.out; rw [totT_append, ← hrr, ← htt9]; have e : totT [(([] : List UInt8), ([] : List UInt8))] = 0 := rfl; omega)
                  clear hO9 hC9 hown5 hnw0 hbs0 h5 hW5 htt9 hrr
                  
                  obtain ⟨A0, c0, hcp, hrow⟩ := hG.out.rw.2.1 (k * 2) tt.1 (by have := flat_get (ts := rr ++ [tt]) (j := k) (t := tt) (by rw [← hKr.out]; simp); exact this.1)
                  obtain ⟨z, hz⟩ : ∃ z, tt.1 = z := ⟨_, rfl⟩
                  rw [hz] at hcp hrow
                  have hzl : z.length ≤ 262144 := by
                    have h1 := hGt.out
                    rw [totT_append] at h1
                    unfold totT at h1
                    simp only [List.map_cons, List.map_nil, List.sum_cons, List.sum_nil] at h1
                    rw [← hz]
                    omega
                  have zz := (own_cell hG.out.own hcp).1
                  have q2 : w9.drew.cell? ⟨g3, k * 2, none⟩ = some (.slice A0 z.length c0) := zz
                  have x2d : w9.drew.cell? ⟨b, o + i * 3 + 2, none⟩ = some (.slice (some ⟨by', oy, none⟩) y.length c') := hG.out.C.cell x2.out (by simp)
                  have ycd : w9.drew.cell? ⟨by', oy + j, none⟩ = some (.int .u8 x.toNat) := hG.out.C.cell hyc.out (by simp)
                  have q3 : ((w9.alloc (.cells #[.int .u8 x.toNat] 5 (0, 0))).drew).cell? ⟨g3, k * 2, none⟩ = some (.slice A0 z.length c0) := (((Chg.refl [] w9).alloc _).drew).cell zz (by simp)
                  have hC5 : Chg [] w9 ((w9.alloc (.cells #[.int .u8 x.toNat] 5 (0, 0))).drew) := ((Chg.refl [] w9).alloc _).drew
                  have hr5 := Lib.hid (own_chg hrow hC5 (by simp))
                  have hnw : Hid (Sl ((w9.alloc (.cells #[.int .u8 x.toNat] 5 (0, 0))).drew) 1 (.slice (some ⟨w9.heap.size, 0, none⟩) 1 1) 1 [.int .u8 x.toNat]) := Lib.hid ((sl_new w9 [.int .u8 x.toNat] 5 1 rfl (by decide)).chg ((Chg.refl [] _).drew) (by simp))
                  have hbs := Lib.hid (Nat.le_trans hG.out.C.size hC5.size)
                  have hi1 : (j : Int) < (y.length : Int) := by omega
                  have hi2 : (i : Int) < (n : Int) := by omega
                  have hi3 : (k : Int) < ((k + 1 : Nat) : Int) := by omega
                  have hi4 : (k : Int) < (k : Int) + 1 := by omega
                  have hwk := IntWalk.i64_in (k : Int) (by omega)
                  replace hC5 := Lib.hid hC5
                  replace hcp := Lib.hid hcp
                  replace hz := Lib.hid hz
                  have hend : Hid (addB (ts', true) false x = (addLast (rr ++ [tt]) false [x], false)) := hbr
                  clear zz hrow
                  go_wp2_with fail
                  refine wp_region_any (by kernel_rfl) ?_
                  (try (change wpAny _ _ _ _ _ _ _ (World.drew _)))
                  refine wpAny_take (i := 0) (v := ?_) rfl (by kernel_rfl) (by kernel_rfl) (by kernel_rfl) (fun _ _ _ h => h) (Or.inl ⟨by kernel_rfl, ?_⟩) ?_
                  rotate_left
                  · (intro w; go_simp; try with_reducible rfl)
                  change wpAny _ _ _ _ _ _ (Act.put _ (some 56) _) _
                  (try simp only [Act.put, List.setIfInBounds_toArray, List.set_cons_zero, List.set_cons_succ])
                  refine wpAny_take (i := 1) (v := ?_) rfl (by kernel_rfl) (by kernel_rfl) (by kernel_rfl) (fun _ _ _ h => h) (Or.inl ⟨by kernel_rfl, ?_⟩) ?_
                  rotate_left
                  · (intro w; go_simp; try with_reducible rfl)
                  change wpAny _ _ _ _ _ _ (Act.put _ (some 57) _) _
                  (try simp only [Act.put, List.setIfInBounds_toArray, List.set_cons_zero, List.set_cons_succ])
                  refine wpAny_take (i := 2) (v := ?_) rfl (by kernel_rfl) (by kernel_rfl) (by kernel_rfl) (fun _ _ _ h => h) (Or.inl ⟨by kernel_rfl, ?_⟩) ?_
                  rotate_left
                  · (intro w; go_simp; try with_reducible rfl)
                  change wpAny _ _ _ _ _ _ (Act.put _ (some 58) _) _
                  (try simp only [Act.put, List.setIfInBounds_toArray, List.set_cons_zero, List.set_cons_succ])
                  refine wpAny_take (i := 3) (v := ?_) rfl (by kernel_rfl) (by kernel_rfl) (by kernel_rfl) (fun _ _ _ h => h) (Or.inl ⟨by kernel_rfl, ?_⟩) ?_
                  rotate_left
                  · (intro w; go_simp; try with_reducible rfl)
                  change wpAny _ _ _ _ _ _ (Act.put _ (some 59) _) _
                  (try simp only [Act.put, List.setIfInBounds_toArray, List.set_cons_zero, List.set_cons_succ])
                  refine wpAny_take (i := 4) (v := ?_) rfl (by kernel_rfl) (by kernel_rfl) (by kernel_rfl) (fun _ _ _ h => h) (Or.inl ⟨by kernel_rfl, ?_⟩) ?_
                  rotate_left
                  · (intro w; go_simp; try with_reducible rfl)
                  change wpAny _ _ _ _ _ _ (Act.put _ (some 60) _) _
                  (try simp only [Act.put, List.setIfInBounds_toArray, List.set_cons_zero, List.set_cons_succ])
                  refine wpAny_take (i := 5) (v := ?_) rfl (by kernel_rfl) (by kernel_rfl) (by kernel_rfl) (fun _ _ _ h => h) (Or.inl ⟨by kernel_rfl, ?_⟩) ?_
                  rotate_left
                  · (intro w; go_simp; try with_reducible rfl)
                  change wpAny _ _ _ _ _ _ (Act.put _ (some 61) _) _
                  (try simp only [Act.put, List.setIfInBounds_toArray, List.set_cons_zero, List.set_cons_succ])
                  refine wpAny_take (i := 7) (v := ?_) rfl (by kernel_rfl) (by kernel_rfl) (by kernel_rfl) (fun _ _ _ h => h) (Or.inl ⟨by kernel_rfl, ?_⟩) ?_
                  rotate_left
                  · (intro w; go_simp; try with_reducible rfl)
                  change wpAny _ _ _ _ _ _ (Act.put _ (some 63) _) _
                  (try simp only [Act.put, List.setIfInBounds_toArray, List.set_cons_zero, List.set_cons_succ])
                  refine wpAny_take (i := 8) (v := ?_) rfl (by kernel_rfl) (by kernel_rfl) (by kernel_rfl) (fun _ _ _ h => h) (Or.inl ⟨by kernel_rfl, ?_⟩) ?_
                  rotate_left
                  · (intro w; go_simp; try with_reducible rfl)
                  change wpAny _ _ _ _ _ _ (Act.put _ (some 64) _) _
                  (try simp only [Act.put, List.setIfInBounds_toArray, List.set_cons_zero, List.set_cons_succ])
                  refine wpAny_take (i := 9) (v := ?_) rfl (by kernel_rfl) (by kernel_rfl) (by kernel_rfl) (fun _ _ _ h => h) (Or.inl ⟨by kernel_rfl, ?_⟩) ?_
                  rotate_left
                  · (intro w; go_simp; try with_reducible rfl)
                  change wpAny _ _ _ _ _ _ (Act.put _ (some 65) _) _
                  (try simp only [Act.put, List.setIfInBounds_toArray, List.set_cons_zero, List.set_cons_succ])
                  refine wpAny_take (i := 10) (v := ?_) rfl (by kernel_rfl) (by kernel_rfl) (by kernel_rfl) (fun _ _ _ h => h) (Or.inl ⟨by kernel_rfl, ?_⟩) ?_
                  rotate_left
                  · (intro w; go_simp; try with_reducible rfl)
                  change wpAny _ _ _ _ _ _ (Act.put _ (some 66) _) _
                  (try simp only [Act.put, List.setIfInBounds_toArray, List.set_cons_zero, List.set_cons_succ])
                  refine wpAny_take (i := 12) (v := ?_) rfl (by kernel_rfl) (by kernel_rfl) (by kernel_rfl) (fun _ _ _ h => h) (Or.inl ⟨by kernel_rfl, ?_⟩) ?_
                  rotate_left
                  · (intro w; go_simp; try with_reducible rfl)
                  change wpAny _ _ _ _ _ _ (Act.put _ (some 68) _) _
                  (try simp only [Act.put, List.setIfInBounds_toArray, List.set_cons_zero, List.set_cons_succ])
                  refine wpAny_ready (rs := [6, 11]) (by kernel_rfl) (by simp) ?_
                  refine AllReady.cons rfl (fun K hK => ?_) ?_
                  · go_simp
                    (try (refine hK _ _ ?_; clear hK K))
                    (try simp only [Act.put, List.setIfInBounds_toArray, List.set_cons_zero, List.set_cons_succ])
                    refine wpAny_ready (rs := [11]) (by kernel_rfl) (by simp) ?_
                    refine AllReady.cons rfl (fun K hK => ?_) ?_
                    · go_simp
                      (try (refine hK _ _ ?_; clear hK K))
                      (try simp only [Act.put, List.setIfInBounds_toArray, List.set_cons_zero, List.set_cons_succ])
                      refine wpAny_take (i := 13) (v := ?_) rfl (by kernel_rfl) (by kernel_rfl) (by kernel_rfl) (fun _ _ _ h => h) (Or.inl ⟨by kernel_rfl, ?_⟩) ?_
                      rotate_left
                      · (intro w; go_simp; try with_reducible rfl)
                      change wpAny _ _ _ _ _ _ (Act.put _ (some 69) _) _
                      (try simp only [Act.put, List.setIfInBounds_toArray, List.set_cons_zero, List.set_cons_succ])
                      refine wpAny_ready (rs := [14]) (by kernel_rfl) (by simp) ?_
                      refine AllReady.cons rfl (fun K hK => ?_) ?_
                      · go_simp
                        (try (refine hK _ _ ?_; clear hK K))
                        (try simp only [Act.put, List.setIfInBounds_toArray, List.set_cons_zero, List.set_cons_succ])
                        refine wpAny_ready (rs := [15]) (by kernel_rfl) (by simp) ?_
                        refine AllReady.cons rfl (fun K hK => ?_) ?_
                        · go_simp
                          (try (refine hK _ _ ?_; clear hK K))
                          (try simp only [Act.put, List.setIfInBounds_toArray, List.set_cons_zero, List.set_cons_succ])
                          refine wpAny_ready (rs := [16]) (by kernel_rfl) (by simp) ?_
                          refine AllReady.cons rfl (fun K hK => ?_) ?_
                          · (refine step_append_sl rfl (.tmp 62) (.tmp 71) 35 rfl w.heap.size 5 (.int .u8 0) 1 1 Tryd.underlying35 Tryd.info_u8 rfl (by decide) (.slice A0 z.length c0) z.length (cellsOf .u8 (ns z)) hr5.out rfl _ 1 [.int .u8 x.toNat] hnw.out rfl (by intro u hu; simp at hu; subst hu; rfl) (z.length + 1) rfl (by omega) (by decide) hbs.out ?_; intro A6 c6 w6 hO6 hC6 hat; obtain ⟨⟨s0, s1⟩, hMn⟩ := hG.out.grow (d := false) (x := x) hKr.out (show (if false then tt.2 else tt.1) = z by simp only [Bool.false_eq_true, if_false]; exact hz.out) (show k * 2 + (if false then 1 else 0) = k * 2 by simp only [Bool.false_eq_true, if_false, Nat.add_zero]) hcp.out hC5.out hO6 hC6 hat; replace hMn := Lib.hid hMn; clear hO6 hC6 hat; refine hK _ _ ?_; clear hK K)
                            (try simp only [Act.put, List.setIfInBounds_toArray, List.set_cons_zero, List.set_cons_succ])
                            refine wpAny_take (i := 17) (v := ?_) rfl (by kernel_rfl) (by kernel_rfl) (by kernel_rfl) (fun _ _ _ h => h) (Or.inl ⟨by kernel_rfl, ?_⟩) ?_
                            rotate_left
                            · (intro w; go_simp; try with_reducible rfl)
                            change wpAny _ _ _ _ _ _ (Act.put _ (some 73) _) _
                            (try simp only [Act.put, List.setIfInBounds_toArray, List.set_cons_zero, List.set_cons_succ])
                            refine wpAny_take (i := 18) (v := ?_) rfl (by kernel_rfl) (by kernel_rfl) (by kernel_rfl) (fun _ _ _ h => h) (Or.inl ⟨by kernel_rfl, ?_⟩) ?_
                            rotate_left
                            · (intro w; go_simp; try with_reducible rfl)
                            change wpAny _ _ _ _ _ _ (Act.put _ (some 74) _) _
                            (try simp only [Act.put, List.setIfInBounds_toArray, List.set_cons_zero, List.set_cons_succ])
                            refine wpAny_ready (rs := [19]) (by kernel_rfl) (by simp) ?_
                            refine AllReady.cons rfl (fun K hK => ?_) ?_
                            · go_simp
                              (try (refine hK _ _ ?_; clear hK K))
                              (try simp only [Act.put, List.setIfInBounds_toArray, List.set_cons_zero, List.set_cons_succ])
                              refine wpAny_done (by kernel_rfl) ?_ _
                              (try simp only [Act.put, List.setIfInBounds_toArray, List.set_cons_zero, List.set_cons_succ])
                              clear q2 q3 x2d ycd s0 s1 hr5 hnw hbs hC5 hG
                              go_wp2_with fail
                              go_roundg (y.length - (j + 1))
                              case measure => omega
                              case rel => exact ⟨j + 1, k + 1, _, c9, _, addLast (rr ++ [tt]) false [x], false, by go_num, rfl, rfl, by omega, rfl, by omega, Lib.hid (by rw [hst3.out]; exact hend.out), Lib.hid (by have := htt3.out.1; rw [hend.out] at this; exact this), hMn⟩
                            exact AllReady.nil
                          exact AllReady.nil
                        exact AllReady.nil
                      exact AllReady.nil
                    exact AllReady.nil
                  refine AllReady.cons rfl (fun K hK => ?_) ?_
                  · go_simp
                    (try (refine hK _ _ ?_; clear hK K))
                    (try simp only [Act.put, List.setIfInBounds_toArray, List.set_cons_zero, List.set_cons_succ])
                    refine wpAny_take (i := 13) (v := ?_) rfl (by kernel_rfl) (by kernel_rfl) (by kernel_rfl) (fun _ _ _ h => h) (Or.inl ⟨by kernel_rfl, ?_⟩) ?_
                    rotate_left
                    · (intro w; go_simp; try with_reducible rfl)
                    change wpAny _ _ _ _ _ _ (Act.put _ (some 69) _) _
                    (try simp only [Act.put, List.setIfInBounds_toArray, List.set_cons_zero, List.set_cons_succ])
                    refine wpAny_ready (rs := [6, 14]) (by kernel_rfl) (by simp) ?_
                    refine AllReady.cons rfl (fun K hK => ?_) ?_
                    · go_simp
                      (try (refine hK _ _ ?_; clear hK K))
                      (try simp only [Act.put, List.setIfInBounds_toArray, List.set_cons_zero, List.set_cons_succ])
                      refine wpAny_ready (rs := [14]) (by kernel_rfl) (by simp) ?_
                      refine AllReady.cons rfl (fun K hK => ?_) ?_
                      · go_simp
                        (try (refine hK _ _ ?_; clear hK K))
                        (try simp only [Act.put, List.setIfInBounds_toArray, List.set_cons_zero, List.set_cons_succ])
                        refine wpAny_ready (rs := [15]) (by kernel_rfl) (by simp) ?_
                        refine AllReady.cons rfl (fun K hK => ?_) ?_
                        · go_simp
                          (try (refine hK _ _ ?_; clear hK K))
                          (try simp only [Act.put, List.setIfInBounds_toArray, List.set_cons_zero, List.set_cons_succ])
                          refine wpAny_ready (rs := [16]) (by kernel_rfl) (by simp) ?_
                          refine AllReady.cons rfl (fun K hK => ?_) ?_
                          · (refine step_append_sl rfl (.tmp 62) (.tmp 71) 35 rfl w.heap.size 5 (.int .u8 0) 1 1 Tryd.underlying35 Tryd.info_u8 rfl (by decide) (.slice A0 z.length c0) z.length (cellsOf .u8 (ns z)) hr5.out rfl _ 1 [.int .u8 x.toNat] hnw.out rfl (by intro u hu; simp at hu; subst hu; rfl) (z.length + 1) rfl (by omega) (by decide) hbs.out ?_; intro A6 c6 w6 hO6 hC6 hat; obtain ⟨⟨s0, s1⟩, hMn⟩ := hG.out.grow (d := false) (x := x) hKr.out (show (if false then tt.2 else tt.1) = z by simp only [Bool.false_eq_true, if_false]; exact hz.out) (show k * 2 + (if false then 1 else 0) = k * 2 by simp only [Bool.false_eq_true, if_false, Nat.add_zero]) hcp.out hC5.out hO6 hC6 hat; replace hMn := Lib.hid hMn; clear hO6 hC6 hat; refine hK _ _ ?_; clear hK K)
                            (try simp only [Act.put, List.setIfInBounds_toArray, List.set_cons_zero, List.set_cons_succ])
                            refine wpAny_take (i := 17) (v := ?_) rfl (by kernel_rfl) (by kernel_rfl) (by kernel_rfl) (fun _ _ _ h => h) (Or.inl ⟨by kernel_rfl, ?_⟩) ?_
                            rotate_left
                            · (intro w; go_simp; try with_reducible rfl)
                            change wpAny _ _ _ _ _ _ (Act.put _ (some 73) _) _
                            (try simp only [Act.put, List.setIfInBounds_toArray, List.set_cons_zero, List.set_cons_succ])
                            refine wpAny_take (i := 18) (v := ?_) rfl (by kernel_rfl) (by kernel_rfl) (by kernel_rfl) (fun _ _ _ h => h) (Or.inl ⟨by kernel_rfl, ?_⟩) ?_
                            rotate_left
                            · (intro w; go_simp; try with_reducible rfl)
                            change wpAny _ _ _ _ _ _ (Act.put _ (some 74) _) _
                            (try simp only [Act.put, List.setIfInBounds_toArray, List.set_cons_zero, List.set_cons_succ])
                            refine wpAny_ready (rs := [19]) (by kernel_rfl) (by simp) ?_
                            refine AllReady.cons rfl (fun K hK => ?_) ?_
                            · go_simp
                              (try (refine hK _ _ ?_; clear hK K))
                              (try simp only [Act.put, List.setIfInBounds_toArray, List.set_cons_zero, List.set_cons_succ])
                              refine wpAny_done (by kernel_rfl) ?_ _
                              (try simp only [Act.put, List.setIfInBounds_toArray, List.set_cons_zero, List.set_cons_succ])
                              clear q2 q3 x2d ycd s0 s1 hr5 hnw hbs hC5 hG
                              go_wp2_with fail
                              go_roundg (y.length - (j + 1))
                              case measure => omega
                              case rel => exact ⟨j + 1, k + 1, _, c9, _, addLast (rr ++ [tt]) false [x], false, by go_num, rfl, rfl, by omega, rfl, by omega, Lib.hid (by rw [hst3.out]; exact hend.out), Lib.hid (by have := htt3.out.1; rw [hend.out] at this; exact this), hMn⟩
                            exact AllReady.nil
                          exact AllReady.nil
                        exact AllReady.nil
                      exact AllReady.nil
                    refine AllReady.cons rfl (fun K hK => ?_) ?_
                    · go_simp
                      (try (refine hK _ _ ?_; clear hK K))
                      (try simp only [Act.put, List.setIfInBounds_toArray, List.set_cons_zero, List.set_cons_succ])
                      refine wpAny_ready (rs := [6, 15]) (by kernel_rfl) (by simp) ?_
                      refine AllReady.cons rfl (fun K hK => ?_) ?_
                      · go_simp
                        (try (refine hK _ _ ?_; clear hK K))
                        (try simp only [Act.put, List.setIfInBounds_toArray, List.set_cons_zero, List.set_cons_succ])
                        refine wpAny_ready (rs := [15]) (by kernel_rfl) (by simp) ?_
                        refine AllReady.cons rfl (fun K hK => ?_) ?_
                        · go_simp
                          (try (refine hK _ _ ?_; clear hK K))
                          (try simp only [Act.put, List.setIfInBounds_toArray, List.set_cons_zero, List.set_cons_succ])
                          refine wpAny_ready (rs := [16]) (by kernel_rfl) (by simp) ?_
                          refine AllReady.cons rfl (fun K hK => ?_) ?_
                          · (refine step_append_sl rfl (.tmp 62) (.tmp 71) 35 rfl w.heap.size 5 (.int .u8 0) 1 1 Tryd.underlying35 Tryd.info_u8 rfl (by decide) (.slice A0 z.length c0) z.length (cellsOf .u8 (ns z)) hr5.out rfl _ 1 [.int .u8 x.toNat] hnw.out rfl (by intro u hu; simp at hu; subst hu; rfl) (z.length + 1) rfl (by omega) (by decide) hbs.out ?_; intro A6 c6 w6 hO6 hC6 hat; obtain ⟨⟨s0, s1⟩, hMn⟩ := hG.out.grow (d := false) (x := x) hKr.out (show (if false then tt.2 else tt.1) = z by simp only [Bool.false_eq_true, if_false]; exact hz.out) (show k * 2 + (if false then 1 else 0) = k * 2 by simp only [Bool.false_eq_true, if_false, Nat.add_zero]) hcp.out hC5.out hO6 hC6 hat; replace hMn := Lib.hid hMn; clear hO6 hC6 hat; refine hK _ _ ?_; clear hK K)
                            (try simp only [Act.put, List.setIfInBounds_toArray, List.set_cons_zero, List.set_cons_succ])
                            refine wpAny_take (i := 17) (v := ?_) rfl (by kernel_rfl) (by kernel_rfl) (by kernel_rfl) (fun _ _ _ h => h) (Or.inl ⟨by kernel_rfl, ?_⟩) ?_
                            rotate_left
                            · (intro w; go_simp; try with_reducible rfl)
                            change wpAny _ _ _ _ _ _ (Act.put _ (some 73) _) _
                            (try simp only [Act.put, List.setIfInBounds_toArray, List.set_cons_zero, List.set_cons_succ])
                            refine wpAny_take (i := 18) (v := ?_) rfl (by kernel_rfl) (by kernel_rfl) (by kernel_rfl) (fun _ _ _ h => h) (Or.inl ⟨by kernel_rfl, ?_⟩) ?_
                            rotate_left
                            · (intro w; go_simp; try with_reducible rfl)
                            change wpAny _ _ _ _ _ _ (Act.put _ (some 74) _) _
                            (try simp only [Act.put, List.setIfInBounds_toArray, List.set_cons_zero, List.set_cons_succ])
                            refine wpAny_ready (rs := [19]) (by kernel_rfl) (by simp) ?_
                            refine AllReady.cons rfl (fun K hK => ?_) ?_
                            · go_simp
                              (try (refine hK _ _ ?_; clear hK K))
                              (try simp only [Act.put, List.setIfInBounds_toArray, List.set_cons_zero, List.set_cons_succ])
                              refine wpAny_done (by kernel_rfl) ?_ _
                              (try simp only [Act.put, List.setIfInBounds_toArray, List.set_cons_zero, List.set_cons_succ])
                              clear q2 q3 x2d ycd s0 s1 hr5 hnw hbs hC5 hG
                              go_wp2_with fail
                              go_roundg (y.length - (j + 1))
                              case measure => omega
                              case rel => exact ⟨j + 1, k + 1, _, c9, _, addLast (rr ++ [tt]) false [x], false, by go_num, rfl, rfl, by omega, rfl, by omega, Lib.hid (by rw [hst3.out]; exact hend.out), Lib.hid (by have := htt3.out.1; rw [hend.out] at this; exact this), hMn⟩
                            exact AllReady.nil
                          exact AllReady.nil
                        exact AllReady.nil
                      refine AllReady.cons rfl (fun K hK => ?_) ?_
                      · go_simp
                        (try (refine hK _ _ ?_; clear hK K))
                        (try simp only [Act.put, List.setIfInBounds_toArray, List.set_cons_zero, List.set_cons_succ])
                        refine wpAny_ready (rs := [6]) (by kernel_rfl) (by simp) ?_
                        refine AllReady.cons rfl (fun K hK => ?_) ?_
                        · go_simp
                          (try (refine hK _ _ ?_; clear hK K))
                          (try simp only [Act.put, List.setIfInBounds_toArray, List.set_cons_zero, List.set_cons_succ])
                          refine wpAny_ready (rs := [16]) (by kernel_rfl) (by simp) ?_
                          refine AllReady.cons rfl (fun K hK => ?_) ?_
                          · (refine step_append_sl rfl (.tmp 62) (.tmp 71) 35 rfl w.heap.size 5 (.int .u8 0) 1 1 Tryd.underlying35 Tryd.info_u8 rfl (by decide) (.slice A0 z.length c0) z.length (cellsOf .u8 (ns z)) hr5.out rfl _ 1 [.int .u8 x.toNat] hnw.out rfl (by intro u hu; simp at hu; subst hu; rfl) (z.length + 1) rfl (by omega) (by decide) hbs.out ?_; intro A6 c6 w6 hO6 hC6 hat; obtain ⟨⟨s0, s1⟩, hMn⟩ := hG.out.grow (d := false) (x := x) hKr.out (show (if false then tt.2 else tt.1) = z by simp only [Bool.false_eq_true, if_false]; exact hz.out) (show k * 2 + (if false then 1 else 0) = k * 2 by simp only [Bool.false_eq_true, if_false, Nat.add_zero]) hcp.out hC5.out hO6 hC6 hat; replace hMn := Lib.hid hMn; clear hO6 hC6 hat; refine hK _ _ ?_; clear hK K)
                            (try simp only [Act.put, List.setIfInBounds_toArray, List.set_cons_zero, List.set_cons_succ])
                            refine wpAny_take (i := 17) (v := ?_) rfl (by kernel_rfl) (by kernel_rfl) (by kernel_rfl) (fun _ _ _ h => h) (Or.inl ⟨by kernel_rfl, ?_⟩) ?_
                            rotate_left
                            · (intro w; go_simp; try with_reducible rfl)
                            change wpAny _ _ _ _ _ _ (Act.put _ (some 73) _) _
                            (try simp only [Act.put, List.setIfInBounds_toArray, List.set_cons_zero, List.set_cons_succ])
                            refine wpAny_take (i := 18) (v := ?_) rfl (by kernel_rfl) (by kernel_rfl) (by kernel_rfl) (fun _ _ _ h => h) (Or.inl ⟨by kernel_rfl, ?_⟩) ?_
                            rotate_left
                            · (intro w; go_simp; try with_reducible rfl)
                            change wpAny _ _ _ _ _ _ (Act.put _ (some 74) _) _
                            (try simp only [Act.put, List.setIfInBounds_toArray, List.set_cons_zero, List.set_cons_succ])
                            refine wpAny_ready (rs := [19]) (by kernel_rfl) (by simp) ?_
                            refine AllReady.cons rfl (fun K hK => ?_) ?_
                            · go_simp
                              (try (refine hK _ _ ?_; clear hK K))
                              (try simp only [Act.put, List.setIfInBounds_toArray, List.set_cons_zero, List.set_cons_succ])
                              refine wpAny_done (by kernel_rfl) ?_ _
                              (try simp only [Act.put, List.setIfInBounds_toArray, List.set_cons_zero, List.set_cons_succ])
                              clear q2 q3 x2d ycd s0 s1 hr5 hnw hbs hC5 hG
                              go_wp2_with fail
                              go_roundg (y.length - (j + 1))
                              case measure => omega
                              case rel => exact ⟨j + 1, k + 1, _, c9, _, addLast (rr ++ [tt]) false [x], false, by go_num, rfl, rfl, by omega, rfl, by omega, Lib.hid (by rw [hst3.out]; exact hend.out), Lib.hid (by have := htt3.out.1; rw [hend.out] at this; exact this), hMn⟩
                            exact AllReady.nil
                          exact AllReady.nil
                        exact AllReady.nil
                      exact AllReady.nil
                    exact AllReady.nil
                  exact AllReady.nil
            | true =>
              have hdt : dz true = 1 := rfl
              have hdf : dz false = 0 := rfl
              simp only [hdt, hdf] at x0'
              by_cases hk0 : k = 0
              · subst hk0
                have hk0b : (((0 : Nat) : Int) == 0) = true := rfl
                have hcond : Hid (ts' = [] ∨ (true = false ∧ la' = true)) := Lib.hid (.inl (List.eq_nil_of_length_eq_zero (by rw [hO.out.hk])))
                have e9 : Hid (addB (ts', la') true x = (addLast (ts' ++ [([], [])]) true [x], true)) := Lib.hid (by unfold addB; exact congrArg (fun z => (addLast z true [x], true)) (if_pos hcond.out))
                obtain ⟨W5, hW5⟩ : ∃ W5, wr.alloc (.cells #[.slice none 0 0, .slice none 0 0] 46 (0, 0)) = W5 := ⟨_, rfl⟩
                have h5 : Chg [] wr W5 := by rw [← hW5]; exact (Chg.refl [] wr).alloc _
                have hnw0 : Hid (Sl W5 2 (.slice (some ⟨wr.heap.size, 0, none⟩) 1 1) 1 [.slice none 0 0, .slice none 0 0]) := Lib.hid (by rw [← hW5]; exact sl_new2 wr (.slice none 0 0) (.slice none 0 0) 46)
                have hbs0 : Hid (w.heap.size ≤ W5.heap.size) := Lib.hid (Nat.le_trans hO.out.C.size h5.size)
                have hown5 := Lib.hid (own_chg hO.out.own h5 (by simp))
                replace h5 := Lib.hid h5
                go_wp2_with (at_builtin; refine wpList_append_sl rfl (.tmp 47) (.tmp 49) 43 rfl w.heap.size 46 (Value.agg #[.slice none 0 0, .slice none 0 0]) 2 48 Tryd.underlying43 Tryd.info_turn rfl (by decide) _ 0 cs rfl hown5.out _ 1 [.slice none 0 0, .slice none 0 0] rfl hnw0.out (by intro u hu; simp at hu; subst hu; rfl) (0 + 1) rfl (by omega) (by decide) hbs0.out ?_)
                intro A9 c9 w9 hO9 hC9 _
                have hG := Lib.hid (hO.out.push h5.out hO9 hC9)
                obtain ⟨g3, rfl, hg3⟩ := own_some hO9 (by omega)
                obtain ⟨rr, hrr⟩ : ∃ rr, ts' = rr := ⟨_, rfl⟩
                obtain ⟨tt, htt9⟩ : ∃ tt : Tn, (([] : List UInt8), ([] : List UInt8)) = tt := ⟨_, rfl⟩
                rw [hrr, htt9] at hG
                have hbr : Hid (addB (ts', la') true x = (addLast (rr ++ [tt]) true [x], true)) := Lib.hid (by rw [e9.out, htt9, hrr])
                have hKr : Hid (rr.length = 0) := Lib.hid (by rw [← hrr]; exact hO.out.hk)
                have hGt : Hid (totT (rr ++ [tt]) ≤ 262144) := Lib.hid (by have := htt.out; rw [totT_append, ← hrr, ← htt9]; have e : totT [(([] : List UInt8), ([] : List UInt8))] = 0 := rfl; omega)
                clear hO9 hC9 hown5 hnw0 hbs0 h5 hW5 htt9 hrr
                
                obtain ⟨A0, c0, hcp, hrow⟩ := hG.out.rw.2.1 (0 * 2 + 1) tt.2 (by have := flat_get (ts := rr ++ [tt]) (j := 0) (t := tt) (by rw [← hKr.out]; simp); exact this.2)
                obtain ⟨z, hz⟩ : ∃ z, tt.2 = z := ⟨_, rfl⟩
                rw [hz] at hcp hrow
                have hzl : z.length ≤ 262144 := by
                  have h1 := hGt.out
                  rw [totT_append] at h1
                  unfold totT at h1
                  simp only [List.map_cons, List.map_nil, List.sum_cons, List.sum_nil] at h1
                  rw [← hz]
                  omega
                have zz := (own_cell hG.out.own hcp).1
                have q2 : w9.drew.cell? ⟨g3, 0 * 2 + 1, none⟩ = some (.slice A0 z.length c0) := zz
                have x2d : w9.drew.cell? ⟨b, o + i * 3 + 2, none⟩ = some (.slice (some ⟨by', oy, none⟩) y.length c') := hG.out.C.cell x2.out (by simp)
                have ycd : w9.drew.cell? ⟨by', oy + j, none⟩ = some (.int .u8 x.toNat) := hG.out.C.cell hyc.out (by simp)
                have q3 : ((w9.alloc (.cells #[.int .u8 x.toNat] 5 (0, 0))).drew).cell? ⟨g3, 0 * 2 + 1, none⟩ = some (.slice A0 z.length c0) := (((Chg.refl [] w9).alloc _).drew).cell zz (by simp)
                have hC5 : Chg [] w9 ((w9.alloc (.cells #[.int .u8 x.toNat] 5 (0, 0))).drew) := ((Chg.refl [] w9).alloc _).drew
                have hr5 := Lib.hid (own_chg hrow hC5 (by simp))
                have hnw : Hid (Sl ((w9.alloc (.cells #[.int .u8 x.toNat] 5 (0, 0))).drew) 1 (.slice (some ⟨w9.heap.size, 0, none⟩) 1 1) 1 [.int .u8 x.toNat]) := Lib.hid ((sl_new w9 [.int .u8 x.toNat] 5 1 rfl (by decide)).chg ((Chg.refl [] _).drew) (by simp))
                have hbs := Lib.hid (Nat.le_trans hG.out.C.size hC5.size)
                have hi1 : (j : Int) < (y.length : Int) := by omega
                have hi2 : (i : Int) < (n : Int) := by omega
                have hi3 : (0 : Int) < ((0 + 1 : Nat) : Int) := by omega
                have hi4 : (0 : Int) < (0 : Int) + 1 := by omega
                have hwk := IntWalk.i64_in (0 : Int) (by omega)
                replace hC5 := Lib.hid hC5
                replace hcp := Lib.hid hcp
                replace hz := Lib.hid hz
                have hend : Hid (addB (ts', la') true x = (addLast (rr ++ [tt]) true [x], true)) := hbr
                clear zz hrow
                go_wp2_with fail
                refine wp_region_any (by kernel_rfl) ?_
                (try (change wpAny _ _ _ _ _ _ _ (World.drew _)))
                refine wpAny_take (i := 0) (v := ?_) rfl (by kernel_rfl) (by kernel_rfl) (by kernel_rfl) (fun _ _ _ h => h) (Or.inl ⟨by kernel_rfl, ?_⟩) ?_
                rotate_left
                · (intro w; go_simp; try with_reducible rfl)
                change wpAny _ _ _ _ _ _ (Act.put _ (some 75) _) _
                (try simp only [Act.put, List.setIfInBounds_toArray, List.set_cons_zero, List.set_cons_succ])
                refine wpAny_take (i := 1) (v := ?_) rfl (by kernel_rfl) (by kernel_rfl) (by kernel_rfl) (fun _ _ _ h => h) (Or.inl ⟨by kernel_rfl, ?_⟩) ?_
                rotate_left
                · (intro w; go_simp; try with_reducible rfl)
                change wpAny _ _ _ _ _ _ (Act.put _ (some 76) _) _
                (try simp only [Act.put, List.setIfInBounds_toArray, List.set_cons_zero, List.set_cons_succ])
                refine wpAny_take (i := 2) (v := ?_) rfl (by kernel_rfl) (by kernel_rfl) (by kernel_rfl) (fun _ _ _ h => h) (Or.inl ⟨by kernel_rfl, ?_⟩) ?_
                rotate_left
                · (intro w; go_simp; try with_reducible rfl)
                change wpAny _ _ _ _ _ _ (Act.put _ (some 77) _) _
                (try simp only [Act.put, List.setIfInBounds_toArray, List.set_cons_zero, List.set_cons_succ])
                refine wpAny_take (i := 3) (v := ?_) rfl (by kernel_rfl) (by kernel_rfl) (by kernel_rfl) (fun _ _ _ h => h) (Or.inl ⟨by kernel_rfl, ?_⟩) ?_
                rotate_left
                · (intro w; go_simp; try with_reducible rfl)
                change wpAny _ _ _ _ _ _ (Act.put _ (some 78) _) _
                (try simp only [Act.put, List.setIfInBounds_toArray, List.set_cons_zero, List.set_cons_succ])
                refine wpAny_take (i := 4) (v := ?_) rfl (by kernel_rfl) (by kernel_rfl) (by kernel_rfl) (fun _ _ _ h => h) (Or.inl ⟨by kernel_rfl, ?_⟩) ?_
                rotate_left
                · (intro w; go_simp; try with_reducible rfl)
                change wpAny _ _ _ _ _ _ (Act.put _ (some 79) _) _
                (try simp only [Act.put, List.setIfInBounds_toArray, List.set_cons_zero, List.set_cons_succ])
                refine wpAny_take (i := 5) (v := ?_) rfl (by kernel_rfl) (by kernel_rfl) (by kernel_rfl) (fun _ _ _ h => h) (Or.inl ⟨by kernel_rfl, ?_⟩) ?_
                rotate_left
                · (intro w; go_simp; try with_reducible rfl)
                change wpAny _ _ _ _ _ _ (Act.put _ (some 80) _) _
                (try simp only [Act.put, List.setIfInBounds_toArray, List.set_cons_zero, List.set_cons_succ])
                refine wpAny_take (i := 7) (v := ?_) rfl (by kernel_rfl) (by kernel_rfl) (by kernel_rfl) (fun _ _ _ h => h) (Or.inl ⟨by kernel_rfl, ?_⟩) ?_
                rotate_left
                · (intro w; go_simp; try with_reducible rfl)
                change wpAny _ _ _ _ _ _ (Act.put _ (some 82) _) _
                (try simp only [Act.put, List.setIfInBounds_toArray, List.set_cons_zero, List.set_cons_succ])
                refine wpAny_take (i := 8) (v := ?_) rfl (by kernel_rfl) (by kernel_rfl) (by kernel_rfl) (fun _ _ _ h => h) (Or.inl ⟨by kernel_rfl, ?_⟩) ?_
                rotate_left
                · (intro w; go_simp; try with_reducible rfl)
                change wpAny _ _ _ _ _ _ (Act.put _ (some 83) _) _
                (try simp only [Act.put, List.setIfInBounds_toArray, List.set_cons_zero, List.set_cons_succ])
                refine wpAny_take (i := 9) (v := ?_) rfl (by kernel_rfl) (by kernel_rfl) (by kernel_rfl) (fun _ _ _ h => h) (Or.inl ⟨by kernel_rfl, ?_⟩) ?_
                rotate_left
                · (intro w; go_simp; try with_reducible rfl)
                change wpAny _ _ _ _ _ _ (Act.put _ (some 84) _) _
                (try simp only [Act.put, List.setIfInBounds_toArray, List.set_cons_zero, List.set_cons_succ])
                refine wpAny_take (i := 10) (v := ?_) rfl (by kernel_rfl) (by kernel_rfl) (by kernel_rfl) (fun _ _ _ h => h) (Or.inl ⟨by kernel_rfl, ?_⟩) ?_
                rotate_left
                · (intro w; go_simp; try with_reducible rfl)
                change wpAny _ _ _ _ _ _ (Act.put _ (some 85) _) _
                (try simp only [Act.put, List.setIfInBounds_toArray, List.set_cons_zero, List.set_cons_succ])
                refine wpAny_take (i := 12) (v := ?_) rfl (by kernel_rfl) (by kernel_rfl) (by kernel_rfl) (fun _ _ _ h => h) (Or.inl ⟨by kernel_rfl, ?_⟩) ?_
                rotate_left
                · (intro w; go_simp; try with_reducible rfl)
                change wpAny _ _ _ _ _ _ (Act.put _ (some 87) _) _
                (try simp only [Act.put, List.setIfInBounds_toArray, List.set_cons_zero, List.set_cons_succ])
                refine wpAny_ready (rs := [6, 11]) (by kernel_rfl) (by simp) ?_
                refine AllReady.cons rfl (fun K hK => ?_) ?_
                · go_simp
                  (try (refine hK _ _ ?_; clear hK K))
                  (try simp only [Act.put, List.setIfInBounds_toArray, List.set_cons_zero, List.set_cons_succ])
                  refine wpAny_ready (rs := [11]) (by kernel_rfl) (by simp) ?_
                  refine AllReady.cons rfl (fun K hK => ?_) ?_
                  · go_simp
                    (try (refine hK _ _ ?_; clear hK K))
                    (try simp only [Act.put, List.setIfInBounds_toArray, List.set_cons_zero, List.set_cons_succ])
                    refine wpAny_take (i := 13) (v := ?_) rfl (by kernel_rfl) (by kernel_rfl) (by kernel_rfl) (fun _ _ _ h => h) (Or.inl ⟨by kernel_rfl, ?_⟩) ?_
                    rotate_left
                    · (intro w; go_simp; try with_reducible rfl)
                    change wpAny _ _ _ _ _ _ (Act.put _ (some 88) _) _
                    (try simp only [Act.put, List.setIfInBounds_toArray, List.set_cons_zero, List.set_cons_succ])
                    refine wpAny_ready (rs := [14]) (by kernel_rfl) (by simp) ?_
                    refine AllReady.cons rfl (fun K hK => ?_) ?_
                    · go_simp
                      (try (refine hK _ _ ?_; clear hK K))
                      (try simp only [Act.put, List.setIfInBounds_toArray, List.set_cons_zero, List.set_cons_succ])
                      refine wpAny_ready (rs := [15]) (by kernel_rfl) (by simp) ?_
                      refine AllReady.cons rfl (fun K hK => ?_) ?_
                      · go_simp
                        (try (refine hK _ _ ?_; clear hK K))
                        (try simp only [Act.put, List.setIfInBounds_toArray, List.set_cons_zero, List.set_cons_succ])
                        refine wpAny_ready (rs := [16]) (by kernel_rfl) (by simp) ?_
                        refine AllReady.cons rfl (fun K hK => ?_) ?_
                        · (refine step_append_sl rfl (.tmp 81) (.tmp 90) 35 rfl w.heap.size 5 (.int .u8 0) 1 1 Tryd.underlying35 Tryd.info_u8 rfl (by decide) (.slice A0 z.length c0) z.length (cellsOf .u8 (ns z)) hr5.out rfl _ 1 [.int .u8 x.toNat] hnw.out rfl (by intro u hu; simp at hu; subst hu; rfl) (z.length + 1) rfl (by omega) (by decide) hbs.out ?_; intro A6 c6 w6 hO6 hC6 hat; obtain ⟨⟨s0, s1⟩, hMn⟩ := hG.out.grow (d := true) (x := x) hKr.out (show (if true then tt.2 else tt.1) = z by simp only [if_true]; exact hz.out) (show 0 * 2 + (if true then 1 else 0) = 0 * 2 + 1 by simp only [if_true, Nat.add_zero]) hcp.out hC5.out hO6 hC6 hat; replace hMn := Lib.hid hMn; clear hO6 hC6 hat; refine hK _ _ ?_; clear hK K)
                          (try simp only [Act.put, List.setIfInBounds_toArray, List.set_cons_zero, List.set_cons_succ])
                          refine wpAny_take (i := 17) (v := ?_) rfl (by kernel_rfl) (by kernel_rfl) (by kernel_rfl) (fun _ _ _ h => h) (Or.inl ⟨by kernel_rfl, ?_⟩) ?_
                          rotate_left
                          · (intro w; go_simp; try with_reducible rfl)
                          change wpAny _ _ _ _ _ _ (Act.put _ (some 92) _) _
                          (try simp only [Act.put, List.setIfInBounds_toArray, List.set_cons_zero, List.set_cons_succ])
                          refine wpAny_take (i := 18) (v := ?_) rfl (by kernel_rfl) (by kernel_rfl) (by kernel_rfl) (fun _ _ _ h => h) (Or.inl ⟨by kernel_rfl, ?_⟩) ?_
                          rotate_left
                          · (intro w; go_simp; try with_reducible rfl)
                          change wpAny _ _ _ _ _ _ (Act.put _ (some 93) _) _
                          (try simp only [Act.put, List.setIfInBounds_toArray, List.set_cons_zero, List.set_cons_succ])
                          refine wpAny_ready (rs := [19]) (by kernel_rfl) (by simp) ?_
                          refine AllReady.cons rfl (fun K hK => ?_) ?_
                          · go_simp
                            (try (refine hK _ _ ?_; clear hK K))
                            (try simp only [Act.put, List.setIfInBounds_toArray, List.set_cons_zero, List.set_cons_succ])
                            refine wpAny_done (by kernel_rfl) ?_ _
                            (try simp only [Act.put, List.setIfInBounds_toArray, List.set_cons_zero, List.set_cons_succ])
                            clear q2 q3 x2d ycd s0 s1 hr5 hnw hbs hC5 hG
                            go_wp2_with fail
                            go_roundg (y.length - (j + 1))
                            case measure => omega
                            case rel => exact ⟨j + 1, 0 + 1, _, c9, _, addLast (rr ++ [tt]) true [x], true, by go_num, rfl, rfl, by omega, rfl, by omega, Lib.hid (by rw [hst3.out]; exact hend.out), Lib.hid (by have := htt3.out.1; rw [hend.out] at this; exact this), hMn⟩
                          exact AllReady.nil
                        exact AllReady.nil
                      exact AllReady.nil
                    exact AllReady.nil
                  exact AllReady.nil
                refine AllReady.cons rfl (fun K hK => ?_) ?_
                · go_simp
                  (try (refine hK _ _ ?_; clear hK K))
                  (try simp only [Act.put, List.setIfInBounds_toArray, List.set_cons_zero, List.set_cons_succ])
                  refine wpAny_take (i := 13) (v := ?_) rfl (by kernel_rfl) (by kernel_rfl) (by kernel_rfl) (fun _ _ _ h => h) (Or.inl ⟨by kernel_rfl, ?_⟩) ?_
                  rotate_left
                  · (intro w; go_simp; try with_reducible rfl)
                  change wpAny _ _ _ _ _ _ (Act.put _ (some 88) _) _
                  (try simp only [Act.put, List.setIfInBounds_toArray, List.set_cons_zero, List.set_cons_succ])
                  refine wpAny_ready (rs := [6, 14]) (by kernel_rfl) (by simp) ?_
                  refine AllReady.cons rfl (fun K hK => ?_) ?_
                  · go_simp
                    (try (refine hK _ _ ?_; clear hK K))
                    (try simp only [Act.put, List.setIfInBounds_toArray, List.set_cons_zero, List.set_cons_succ])
                    refine wpAny_ready (rs := [14]) (by kernel_rfl) (by simp) ?_
                    refine AllReady.cons rfl (fun K hK => ?_) ?_
                    · go_simp
                      (try (refine hK _ _ ?_; clear hK K))
                      (try simp only [Act.put, List.setIfInBounds_toArray, List.set_cons_zero, List.set_cons_succ])
                      refine wpAny_ready (rs := [15]) (by kernel_rfl) (by simp) ?_
                      refine AllReady.cons rfl (fun K hK => ?_) ?_
                      · go_simp
                        (try (refine hK _ _ ?_; clear hK K))
                        (try simp only [Act.put, List.setIfInBounds_toArray, List.set_cons_zero, List.set_cons_succ])
                        refine wpAny_ready (rs := [16]) (by kernel_rfl) (by simp) ?_
                        refine AllReady.cons rfl (fun K hK => ?_) ?_
                        · (refine step_append_sl rfl (.tmp 81) (.tmp 90) 35 rfl w.heap.size 5 (.int .u8 0) 1 1 Tryd.underlying35 Tryd.info_u8 rfl (by decide) (.slice A0 z.length c0) z.length (cellsOf .u8 (ns z)) hr5.out rfl _ 1 [.int .u8 x.toNat] hnw.out rfl (by intro u hu; simp at hu; subst hu; rfl) (z.length + 1) rfl (by omega) (by decide) hbs.out ?_; intro A6 c6 w6 hO6 hC6 hat; obtain ⟨⟨s0, s1⟩, hMn⟩ := hG.out.grow (d := true) (x := x) hKr.out (show (if true then tt.2 else tt.1) = z by simp only [if_true]; exact hz.out) (show 0 * 2 + (if true then 1 else 0) = 0 * 2 + 1 by simp only [if_true, Nat.add_zero]) hcp.out hC5.out hO6 hC6 hat; replace hMn := Lib.hid hMn; clear hO6 hC6 hat; refine hK _ _ ?_; clear hK K)
                          (try simp only [Act.put, List.setIfInBounds_toArray, List.set_cons_zero, List.set_cons_succ])
                          refine wpAny_take (i := 17) (v := ?_) rfl (by kernel_rfl) (by kernel_rfl) (by kernel_rfl) (fun _ _ _ h => h) (Or.inl ⟨by kernel_rfl, ?_⟩) ?_
                          rotate_left
                          · (intro w; go_simp; try with_reducible rfl)
                          change wpAny _ _ _ _ _ _ (Act.put _ (some 92) _) _
                          (try simp only [Act.put, List.setIfInBounds_toArray, List.set_cons_zero, List.set_cons_succ])
                          refine wpAny_take (i := 18) (v := ?_) rfl (by kernel_rfl) (by kernel_rfl) (by kernel_rfl) (fun _ _ _ h => h) (Or.inl ⟨by kernel_rfl, ?_⟩) ?_
                          rotate_left
                          · (intro w; go_simp; try with_reducible rfl)
                          change wpAny _ _ _ _ _ _ (Act.put _ (some 93) _) _
                          (try simp only [Act.put, List.setIfInBounds_toArray, List.set_cons_zero, List.set_cons_succ])
                          refine wpAny_ready (rs := [19]) (by kernel_rfl) (by simp) ?_
                          refine AllReady.cons rfl (fun K hK => ?_) ?_
                          · go_simp
                            (try (refine hK _ _ ?_; clear hK K))
                            (try simp only [Act.put, List.setIfInBounds_toArray, List.set_cons_zero, List.set_cons_succ])
                            refine wpAny_done (by kernel_rfl) ?_ _
                            (try simp only [Act.put, List.setIfInBounds_toArray, List.set_cons_zero, List.set_cons_succ])
                            clear q2 q3 x2d ycd s0 s1 hr5 hnw hbs hC5 hG
                            go_wp2_with fail
                            go_roundg (y.length - (j + 1))
                            case measure => omega
                            case rel => exact ⟨j + 1, 0 + 1, _, c9, _, addLast (rr ++ [tt]) true [x], true, by go_num, rfl, rfl, by omega, rfl, by omega, Lib.hid (by rw [hst3.out]; exact hend.out), Lib.hid (by have := htt3.out.1; rw [hend.out] at this; exact this), hMn⟩
                          exact AllReady.nil
                        exact AllReady.nil
                      exact AllReady.nil
                    exact AllReady.nil
                  refine AllReady.cons rfl (fun K hK => ?_) ?_
                  · go_simp
                    (try (refine hK _ _ ?_; clear hK K))
                    (try simp only [Act.put, List.setIfInBounds_toArray, List.set_cons_zero, List.set_cons_succ])
                    refine wpAny_ready (rs := [6, 15]) (by kernel_rfl) (by simp) ?_
                    refine AllReady.cons rfl (fun K hK => ?_) ?_
                    · go_simp
                      (try (refine hK _ _ ?_; clear hK K))
                      (try simp only [Act.put, List.setIfInBounds_toArray, List.set_cons_zero, List.set_cons_succ])
                      refine wpAny_ready (rs := [15]) (by kernel_rfl) (by simp) ?_
                      refine AllReady.cons rfl (fun K hK => ?_) ?_
                      · go_simp
                        (try (refine hK _ _ ?_; clear hK K))
                        (try simp only [Act.put, List.setIfInBounds_toArray, List.set_cons_zero, List.set_cons_succ])
                        refine wpAny_ready (rs := [16]) (by kernel_rfl) (by simp) ?_
                        refine AllReady.cons rfl (fun K hK => ?_) ?_
                        · (refine step_append_sl rfl (.tmp 81) (.tmp 90) 35 rfl w.heap.size 5 (.int .u8 0) 1 1 Tryd.underlying35 Tryd.info_u8 rfl (by decide) (.slice A0 z.length c0) z.length (cellsOf .u8 (ns z)) hr5.out rfl _ 1 [.int .u8 x.toNat] hnw.out rfl (by intro u hu; simp at hu; subst hu; rfl) (z.length + 1) rfl (by omega) (by decide) hbs.out ?_; intro A6 c6 w6 hO6 hC6 hat; obtain ⟨⟨s0, s1⟩, hMn⟩ := hG.out.grow (d := true) (x := x) hKr.out (show (if true then tt.2 else tt.1) = z by simp only [if_true]; exact hz.out) (show 0 * 2 + (if true then 1 else 0) = 0 * 2 + 1 by simp only [if_true, Nat.add_zero]) hcp.out hC5.out hO6 hC6 hat; replace hMn := Lib.hid hMn; clear hO6 hC6 hat; refine hK _ _ ?_; clear hK K)
                          (try simp only [Act.put, List.setIfInBounds_toArray, List.set_cons_zero, List.set_cons_succ])
                          refine wpAny_take (i := 17) (v := ?_) rfl (by kernel_rfl) (by kernel_rfl) (by kernel_rfl) (fun _ _ _ h => h) (Or.inl ⟨by kernel_rfl, ?_⟩) ?_
                          rotate_left
                          · (intro w; go_simp; try with_reducible rfl)
                          change wpAny _ _ _ _ _ _ (Act.put _ (some 92) _) _
                          (try simp only [Act.put, List.setIfInBounds_toArray, List.set_cons_zero, List.set_cons_succ])
                          refine wpAny_take (i := 18) (v := ?_) rfl (by kernel_rfl) (by kernel_rfl) (by kernel_rfl) (fun _ _ _ h => h) (Or.inl ⟨by kernel_rfl, ?_⟩) ?_
                          rotate_left
                          · (intro w; go_simp; try with_reducible rfl)
                          change wpAny _ _ _ _ _ _ (Act.put _ (some 93) _) _
                          (try simp only [Act.put, List.setIfInBounds_toArray, List.set_cons_zero, List.set_cons_succ])
                          refine wpAny_ready (rs := [19]) (by kernel_rfl) (by simp) ?_
                          refine AllReady.cons rfl (fun K hK => ?_) ?_
                          · go_simp
                            (try (refine hK _ _ ?_; clear hK K))
                            (try simp only [Act.put, List.setIfInBounds_toArray, List.set_cons_zero, List.set_cons_succ])
                            refine wpAny_done (by kernel_rfl) ?_ _
                            (try simp only [Act.put, List.setIfInBounds_toArray, List.set_cons_zero, List.set_cons_succ])
                            clear q2 q3 x2d ycd s0 s1 hr5 hnw hbs hC5 hG
                            go_wp2_with fail
                            go_roundg (y.length - (j + 1))
                            case measure => omega
                            case rel => exact ⟨j + 1, 0 + 1, _, c9, _, addLast (rr ++ [tt]) true [x], true, by go_num, rfl, rfl, by omega, rfl, by omega, Lib.hid (by rw [hst3.out]; exact hend.out), Lib.hid (by have := htt3.out.1; rw [hend.out] at this; exact this), hMn⟩
                          exact AllReady.nil
                        exact AllReady.nil
                      exact AllReady.nil
                    refine AllReady.cons rfl (fun K hK => ?_) ?_
                    · go_simp
                      (try (refine hK _ _ ?_; clear hK K))
                      (try simp only [Act.put, List.setIfInBounds_toArray, List.set_cons_zero, List.set_cons_succ])
                      refine wpAny_ready (rs := [6]) (by kernel_rfl) (by simp) ?_
                      refine AllReady.cons rfl (fun K hK => ?_) ?_
                      · go_simp
                        (try (refine hK _ _ ?_; clear hK K))
                        (try simp only [Act.put, List.setIfInBounds_toArray, List.set_cons_zero, List.set_cons_succ])
                        refine wpAny_ready (rs := [16]) (by kernel_rfl) (by simp) ?_
                        refine AllReady.cons rfl (fun K hK => ?_) ?_
                        · (refine step_append_sl rfl (.tmp 81) (.tmp 90) 35 rfl w.heap.size 5 (.int .u8 0) 1 1 Tryd.underlying35 Tryd.info_u8 rfl (by decide) (.slice A0 z.length c0) z.length (cellsOf .u8 (ns z)) hr5.out rfl _ 1 [.int .u8 x.toNat] hnw.out rfl (by intro u hu; simp at hu; subst hu; rfl) (z.length + 1) rfl (by omega) (by decide) hbs.out ?_; intro A6 c6 w6 hO6 hC6 hat; obtain ⟨⟨s0, s1⟩, hMn⟩ := hG.out.grow (d := true) (x := x) hKr.out (show (if true then tt.2 else tt.1) = z by simp only [if_true]; exact hz.out) (show 0 * 2 + (if true then 1 else 0) = 0 * 2 + 1 by simp only [if_true, Nat.add_zero]) hcp.out hC5.out hO6 hC6 hat; replace hMn := Lib.hid hMn; clear hO6 hC6 hat; refine hK _ _ ?_; clear hK K)
                          (try simp only [Act.put, List.setIfInBounds_toArray, List.set_cons_zero, List.set_cons_succ])
                          refine wpAny_take (i := 17) (v := ?_) rfl (by kernel_rfl) (by kernel_rfl) (by kernel_rfl) (fun _ _ _ h => h) (Or.inl ⟨by kernel_rfl, ?_⟩) ?_
                          rotate_left
                          · (intro w; go_simp; try with_reducible rfl)
                          change wpAny _ _ _ _ _ _ (Act.put _ (some 92) _) _
                          (try simp only [Act.put, List.setIfInBounds_toArray, List.set_cons_zero, List.set_cons_succ])
                          refine wpAny_take (i := 18) (v := ?_) rfl (by kernel_rfl) (by kernel_rfl) (by kernel_rfl) (fun _ _ _ h => h) (Or.inl ⟨by kernel_rfl, ?_⟩) ?_
                          rotate_left
                          · (intro w; go_simp; try with_reducible rfl)
                          change wpAny _ _ _ _ _ _ (Act.put _ (some 93) _) _
                          (try simp only [Act.put, List.setIfInBounds_toArray, List.set_cons_zero, List.set_cons_succ])
                          refine wpAny_ready (rs := [19]) (by kernel_rfl) (by simp) ?_
                          refine AllReady.cons rfl (fun K hK => ?_) ?_
                          · go_simp
                            (try (refine hK _ _ ?_; clear hK K))
                            (try simp only [Act.put, List.setIfInBounds_toArray, List.set_cons_zero, List.set_cons_succ])
                            refine wpAny_done (by kernel_rfl) ?_ _
                            (try simp only [Act.put, List.setIfInBounds_toArray, List.set_cons_zero, List.set_cons_succ])
                            clear q2 q3 x2d ycd s0 s1 hr5 hnw hbs hC5 hG
                            go_wp2_with fail
                            go_roundg (y.length - (j + 1))
                            case measure => omega
                            case rel => exact ⟨j + 1, 0 + 1, _, c9, _, addLast (rr ++ [tt]) true [x], true, by go_num, rfl, rfl, by omega, rfl, by omega, Lib.hid (by rw [hst3.out]; exact hend.out), Lib.hid (by have := htt3.out.1; rw [hend.out] at this; exact this), hMn⟩
                          exact AllReady.nil
                        exact AllReady.nil
                      exact AllReady.nil
                    exact AllReady.nil
                  exact AllReady.nil
                exact AllReady.nil
              · have hk0b : ((k : Int) == 0) = false := by rw [beq_eq_false_iff_ne]; omega
                have hne : ts' ≠ [] := by rintro rfl; have := hO.out.hk; simp at this; omega
                cases hla : la' with
                | true =>
                  subst hla
                  have hcond : Hid (¬ (ts' = [] ∨ ((true : Bool) = false ∧ (true : Bool) = true))) := Lib.hid (by rintro (h | ⟨h, -⟩); exact hne h; cases h)
                  obtain ⟨rr, tt, rfl⟩ : ∃ (rr : List Tn) (tt : Tn), ts' = rr ++ [tt] := ⟨ts'.dropLast, ts'.getLast hne, (List.dropLast_concat_getLast hne).symm⟩
                  obtain rfl : k = rr.length + 1 := by have := hO.out.hk; simp at this; omega
                  obtain ⟨kk, hKr⟩ : ∃ kk, rr.length = kk := ⟨_, rfl⟩
                  rw [hKr] at hO hk hkb hk0 hk0b htt3 ⊢
                  obtain ⟨g3, rfl, hg3⟩ := own_some hO.out.own (by omega)
                  obtain ⟨c9, hc9⟩ : ∃ c9, c3 = c9 := ⟨_, rfl⟩
                  subst hc9
                  have hG := hO
                  replace hKr := Lib.hid hKr
                  have hGt : Hid (totT (rr ++ [tt]) ≤ 262144) := Lib.hid (by have := htt.out; omega)
                  have hbr : Hid (addB (rr ++ [tt], true) true x = (addLast (rr ++ [tt]) true [x], true)) := Lib.hid (by unfold addB; exact congrArg (fun z => (addLast z true [x], true)) (if_neg hcond.out))
                  clear hne
                  
                  obtain ⟨A0, c0, hcp, hrow⟩ := hG.out.rw.2.1 (kk * 2 + 1) tt.2 (by have := flat_get (ts := rr ++ [tt]) (j := kk) (t := tt) (by rw [← hKr.out]; simp); exact this.2)
                  obtain ⟨z, hz⟩ : ∃ z, tt.2 = z := ⟨_, rfl⟩
                  rw [hz] at hcp hrow
                  have hzl : z.length ≤ 262144 := by
                    have h1 := hGt.out
                    rw [totT_append] at h1
                    unfold totT at h1
                    simp only [List.map_cons, List.map_nil, List.sum_cons, List.sum_nil] at h1
                    rw [← hz]
                    omega
                  have zz := (own_cell hG.out.own hcp).1
                  have q2 : wr.drew.cell? ⟨g3, kk * 2 + 1, none⟩ = some (.slice A0 z.length c0) := zz
                  have x2d : wr.drew.cell? ⟨b, o + i * 3 + 2, none⟩ = some (.slice (some ⟨by', oy, none⟩) y.length c') := hG.out.C.cell x2.out (by simp)
                  have ycd : wr.drew.cell? ⟨by', oy + j, none⟩ = some (.int .u8 x.toNat) := hG.out.C.cell hyc.out (by simp)
                  have q3 : ((wr.alloc (.cells #[.int .u8 x.toNat] 5 (0, 0))).drew).cell? ⟨g3, kk * 2 + 1, none⟩ = some (.slice A0 z.length c0) := (((Chg.refl [] wr).alloc _).drew).cell zz (by simp)
                  have hC5 : Chg [] wr ((wr.alloc (.cells #[.int .u8 x.toNat] 5 (0, 0))).drew) := ((Chg.refl [] wr).alloc _).drew
                  have hr5 := Lib.hid (own_chg hrow hC5 (by simp))
                  have hnw : Hid (Sl ((wr.alloc (.cells #[.int .u8 x.toNat] 5 (0, 0))).drew) 1 (.slice (some ⟨wr.heap.size, 0, none⟩) 1 1) 1 [.int .u8 x.toNat]) := Lib.hid ((sl_new wr [.int .u8 x.toNat] 5 1 rfl (by decide)).chg ((Chg.refl [] _).drew) (by simp))
                  have hbs := Lib.hid (Nat.le_trans hG.out.C.size hC5.size)
                  have hi1 : (j : Int) < (y.length : Int) := by omega
                  have hi2 : (i : Int) < (n : Int) := by omega
                  have hi3 : (kk : Int) < ((kk + 1 : Nat) : Int) := by omega
                  have hi4 : (kk : Int) < (kk : Int) + 1 := by omega
                  have hwk := IntWalk.i64_in (kk : Int) (by omega)
                  replace hC5 := Lib.hid hC5
                  replace hcp := Lib.hid hcp
                  replace hz := Lib.hid hz
                  have hend : Hid (addB (rr ++ [tt], true) true x = (addLast (rr ++ [tt]) true [x], true)) := hbr
                  clear zz hrow
                  go_wp2_with fail
                  refine wp_region_any (by kernel_rfl) ?_
                  (try (change wpAny _ _ _ _ _ _ _ (World.drew _)))
                  refine wpAny_take (i := 0) (v := ?_) rfl (by kernel_rfl) (by kernel_rfl) (by kernel_rfl) (fun _ _ _ h => h) (Or.inl ⟨by kernel_rfl, ?_⟩) ?_
                  rotate_left
                  · (intro w; go_simp; try with_reducible rfl)
                  change wpAny _ _ _ _ _ _ (Act.put _ (some 75) _) _
                  (try simp only [Act.put, List.setIfInBounds_toArray, List.set_cons_zero, List.set_cons_succ])
                  refine wpAny_take (i := 1) (v := ?_) rfl (by kernel_rfl) (by kernel_rfl) (by kernel_rfl) (fun _ _ _ h => h) (Or.inl ⟨by kernel_rfl, ?_⟩) ?_
                  rotate_left
                  · (intro w; go_simp; try with_reducible rfl)
                  change wpAny _ _ _ _ _ _ (Act.put _ (some 76) _) _
                  (try simp only [Act.put, List.setIfInBounds_toArray, List.set_cons_zero, List.set_cons_succ])
                  refine wpAny_take (i := 2) (v := ?_) rfl (by kernel_rfl) (by kernel_rfl) (by kernel_rfl) (fun _ _ _ h => h) (Or.inl ⟨by kernel_rfl, ?_⟩) ?_
                  rotate_left
                  · (intro w; go_simp; try with_reducible rfl)
                  change wpAny _ _ _ _ _ _ (Act.put _ (some 77) _) _
                  (try simp only [Act.put, List.setIfInBounds_toArray, List.set_cons_zero, List.set_cons_succ])
                  refine wpAny_take (i := 3) (v := ?_) rfl (by kernel_rfl) (by kernel_rfl) (by kernel_rfl) (fun _ _ _ h => h) (Or.inl ⟨by kernel_rfl, ?_⟩) ?_
                  rotate_left
                  · (intro w; go_simp; try with_reducible rfl)
                  change wpAny _ _ _ _ _ _ (Act.put _ (some 78) _) _
                  (try simp only [Act.put, List.setIfInBounds_toArray, List.set_cons_zero, List.set_cons_succ])
                  refine wpAny_take (i := 4) (v := ?_) rfl (by kernel_rfl) (by kernel_rfl) (by kernel_rfl) (fun _ _ _ h => h) (Or.inl ⟨by kernel_rfl, ?_⟩) ?_
                  rotate_left
                  · (intro w; go_simp; try with_reducible rfl)
                  change wpAny _ _ _ _ _ _ (Act.put _ (some 79) _) _
                  (try simp only [Act.put, List.setIfInBounds_toArray, List.set_cons_zero, List.set_cons_succ])
                  refine wpAny_take (i := 5) (v := ?_) rfl (by kernel_rfl) (by kernel_rfl) (by kernel_rfl) (fun _ _ _ h => h) (Or.inl ⟨by kernel_rfl, ?_⟩) ?_
                  rotate_left
                  · (intro w; go_simp; try with_reducible rfl)
                  change wpAny _ _ _ _ _ _ (Act.put _ (some 80) _) _
                  (try simp only [Act.put, List.setIfInBounds_toArray, List.set_cons_zero, List.set_cons_succ])
                  refine wpAny_take (i := 7) (v := ?_) rfl (by kernel_rfl) (by kernel_rfl) (by kernel_rfl) (fun _ _ _ h => h) (Or.inl ⟨by kernel_rfl, ?_⟩) ?_
                  rotate_left
                  · (intro w; go_simp; try with_reducible rfl)
                  change wpAny _ _ _ _ _ _ (Act.put _ (some 82) _) _
                  (try simp only [Act.put, List.setIfInBounds_toArray, List.set_cons_zero, List.set_cons_succ])
                  refine wpAny_take (i := 8) (v := ?_) rfl (by kernel_rfl) (by kernel_rfl) (by kernel_rfl) (fun _ _ _ h => h) (Or.inl ⟨by kernel_rfl, ?_⟩) ?_
                  rotate_left
                  · (intro w; go_simp; try with_reducible rfl)
                  change wpAny _ _ _ _ _ _ (Act.put _ (some 83) _) _
                  (try simp only [Act.put, List.setIfInBounds_toArray, List.set_cons_zero, List.set_cons_succ])
                  refine wpAny_take (i := 9) (v := ?_) rfl (by kernel_rfl) (by kernel_rfl) (by kernel_rfl) (fun _ _ _ h => h) (Or.inl ⟨by kernel_rfl, ?_⟩) ?_
                  rotate_left
                  · (intro w; go_simp; try with_reducible rfl)
                  change wpAny _ _ _ _ _ _ (Act.put _ (some 84) _) _
                  (try simp only [Act.put, List.setIfInBounds_toArray, List.set_cons_zero, List.set_cons_succ])
                  refine wpAny_take (i := 10) (v := ?_) rfl (by kernel_rfl) (by kernel_rfl) (by kernel_rfl) (fun _ _ _ h => h) (Or.inl ⟨by kernel_rfl, ?_⟩) ?_
                  rotate_left
                  · (intro w; go_simp; try with_reducible rfl)
                  change wpAny _ _ _ _ _ _ (Act.put _ (some 85) _) _
                  (try simp only [Act.put, List.setIfInBounds_toArray, List.set_cons_zero, List.set_cons_succ])
                  refine wpAny_take (i := 12) (v := ?_) rfl (by kernel_rfl) (by kernel_rfl) (by kernel_rfl) (fun _ _ _ h => h) (Or.inl ⟨by kernel_rfl, ?_⟩) ?_
                  rotate_left
                  · (intro w; go_simp; try with_reducible rfl)
                  change wpAny _ _ _ _ _ _ (Act.put _ (some 87) _) _
                  (try simp only [Act.put, List.setIfInBounds_toArray, List.set_cons_zero, List.set_cons_succ])
                  refine wpAny_ready (rs := [6, 11]) (by kernel_rfl) (by simp) ?_
                  refine AllReady.cons rfl (fun K hK => ?_) ?_
                  · go_simp
                    (try (refine hK _ _ ?_; clear hK K))
                    (try simp only [Act.put, List.setIfInBounds_toArray, List.set_cons_zero, List.set_cons_succ])
                    refine wpAny_ready (rs := [11]) (by kernel_rfl) (by simp) ?_
                    refine AllReady.cons rfl (fun K hK => ?_) ?_
                    · go_simp
                      (try (refine hK _ _ ?_; clear hK K))
                      (try simp only [Act.put, List.setIfInBounds_toArray, List.set_cons_zero, List.set_cons_succ])
                      refine wpAny_take (i := 13) (v := ?_) rfl (by kernel_rfl) (by kernel_rfl) (by kernel_rfl) (fun _ _ _ h => h) (Or.inl ⟨by kernel_rfl, ?_⟩) ?_
                      rotate_left
                      · (intro w; go_simp; try with_reducible rfl)
                      change wpAny _ _ _ _ _ _ (Act.put _ (some 88) _) _
                      (try simp only [Act.put, List.setIfInBounds_toArray, List.set_cons_zero, List.set_cons_succ])
                      refine wpAny_ready (rs := [14]) (by kernel_rfl) (by simp) ?_
                      refine AllReady.cons rfl (fun K hK => ?_) ?_
                      · go_simp
                        (try (refine hK _ _ ?_; clear hK K))
                        (try simp only [Act.put, List.setIfInBounds_toArray, List.set_cons_zero, List.set_cons_succ])
                        refine wpAny_ready (rs := [15]) (by kernel_rfl) (by simp) ?_
                        refine AllReady.cons rfl (fun K hK => ?_) ?_
                        · go_simp
                          (try (refine hK _ _ ?_; clear hK K))
                          (try simp only [Act.put, List.setIfInBounds_toArray, List.set_cons_zero, List.set_cons_succ])
                          refine wpAny_ready (rs := [16]) (by kernel_rfl) (by simp) ?_
                          refine AllReady.cons rfl (fun K hK => ?_) ?_
                          · (refine step_append_sl rfl (.tmp 81) (.tmp 90) 35 rfl w.heap.size 5 (.int .u8 0) 1 1 Tryd.underlying35 Tryd.info_u8 rfl (by decide) (.slice A0 z.length c0) z.length (cellsOf .u8 (ns z)) hr5.out rfl _ 1 [.int .u8 x.toNat] hnw.out rfl (by intro u hu; simp at hu; subst hu; rfl) (z.length + 1) rfl (by omega) (by decide) hbs.out ?_; intro A6 c6 w6 hO6 hC6 hat; obtain ⟨⟨s0, s1⟩, hMn⟩ := hG.out.grow (d := true) (x := x) hKr.out (show (if true then tt.2 else tt.1) = z by simp only [if_true]; exact hz.out) (show kk * 2 + (if true then 1 else 0) = kk * 2 + 1 by simp only [if_true, Nat.add_zero]) hcp.out hC5.out hO6 hC6 hat; replace hMn := Lib.hid hMn; clear hO6 hC6 hat; refine hK _ _ ?_; clear hK K)
                            (try simp only [Act.put, List.setIfInBounds_toArray, List.set_cons_zero, List.set_cons_succ])
                            refine wpAny_take (i := 17) (v := ?_) rfl (by kernel_rfl) (by kernel_rfl) (by kernel_rfl) (fun _ _ _ h => h) (Or.inl ⟨by kernel_rfl, ?_⟩) ?_
                            rotate_left
                            · (intro w; go_simp; try with_reducible rfl)
                            change wpAny _ _ _ _ _ _ (Act.put _ (some 92) _) _
                            (try simp only [Act.put, List.setIfInBounds_toArray, List.set_cons_zero, List.set_cons_succ])
                            refine wpAny_take (i := 18) (v := ?_) rfl (by kernel_rfl) (by kernel_rfl) (by kernel_rfl) (fun _ _ _ h => h) (Or.inl ⟨by kernel_rfl, ?_⟩) ?_
                            rotate_left
                            · (intro w; go_simp; try with_reducible rfl)
                            change wpAny _ _ _ _ _ _ (Act.put _ (some 93) _) _
                            (try simp only [Act.put, List.setIfInBounds_toArray, List.set_cons_zero, List.set_cons_succ])
                            refine wpAny_ready (rs := [19]) (by kernel_rfl) (by simp) ?_
                            refine AllReady.cons rfl (fun K hK => ?_) ?_
                            · go_simp
                              (try (refine hK _ _ ?_; clear hK K))
                              (try simp only [Act.put, List.setIfInBounds_toArray, List.set_cons_zero, List.set_cons_succ])
                              refine wpAny_done (by kernel_rfl) ?_ _
                              (try simp only [Act.put, List.setIfInBounds_toArray, List.set_cons_zero, List.set_cons_succ])
                              clear q2 q3 x2d ycd s0 s1 hr5 hnw hbs hC5 hG
                              go_wp2_with fail
                              go_roundg (y.length - (j + 1))
                              case measure => omega
                              case rel => exact ⟨j + 1, kk + 1, _, c3, _, addLast (rr ++ [tt]) true [x], true, by go_num, rfl, rfl, by omega, rfl, by omega, Lib.hid (by rw [hst3.out]; exact hend.out), Lib.hid (by have := htt3.out.1; rw [hend.out] at this; exact this), hMn⟩
                            exact AllReady.nil
                          exact AllReady.nil
                        exact AllReady.nil
                      exact AllReady.nil
                    exact AllReady.nil
                  refine AllReady.cons rfl (fun K hK => ?_) ?_
                  · go_simp
                    (try (refine hK _ _ ?_; clear hK K))
                    (try simp only [Act.put, List.setIfInBounds_toArray, List.set_cons_zero, List.set_cons_succ])
                    refine wpAny_take (i := 13) (v := ?_) rfl (by kernel_rfl) (by kernel_rfl) (by kernel_rfl) (fun _ _ _ h => h) (Or.inl ⟨by kernel_rfl, ?_⟩) ?_
                    rotate_left
                    · (intro w; go_simp; try with_reducible rfl)
                    change wpAny _ _ _ _ _ _ (Act.put _ (some 88) _) _
                    (try simp only [Act.put, List.setIfInBounds_toArray, List.set_cons_zero, List.set_cons_succ])
                    refine wpAny_ready (rs := [6, 14]) (by kernel_rfl) (by simp) ?_
                    refine AllReady.cons rfl (fun K hK => ?_) ?_
                    · go_simp
                      (try (refine hK _ _ ?_; clear hK K))
                      (try simp only [Act.put, List.setIfInBounds_toArray, List.set_cons_zero, List.set_cons_succ])
                      refine wpAny_ready (rs := [14]) (by kernel_rfl) (by simp) ?_
                      refine AllReady.cons rfl (fun K hK => ?_) ?_
                      · go_simp
                        (try (refine hK _ _ ?_; clear hK K))
                        (try simp only [Act.put, List.setIfInBounds_toArray, List.set_cons_zero, List.set_cons_succ])
                        refine wpAny_ready (rs := [15]) (by kernel_rfl) (by simp) ?_
                        refine AllReady.cons rfl (fun K hK => ?_) ?_
                        · go_simp
                          (try (refine hK _ _ ?_; clear hK K))
                          (try simp only [Act.put, List.setIfInBounds_toArray, List.set_cons_zero, List.set_cons_succ])
                          refine wpAny_ready (rs := [16]) (by kernel_rfl) (by simp) ?_
                          refine AllReady.cons rfl (fun K hK => ?_) ?_
                          · (refine step_append_sl rfl (.tmp 81) (.tmp 90) 35 rfl w.heap.size 5 (.int .u8 0) 1 1 Tryd.underlying35 Tryd.info_u8 rfl (by decide) (.slice A0 z.length c0) z.length (cellsOf .u8 (ns z)) hr5.out rfl _ 1 [.int .u8 x.toNat] hnw.out rfl (by intro u hu; simp at hu; subst hu; rfl) (z.length + 1) rfl (by omega) (by decide) hbs.out ?_; intro A6 c6 w6 hO6 hC6 hat; obtain ⟨⟨s0, s1⟩, hMn⟩ := hG.out.grow (d := true) (x := x) hKr.out (show (if true then tt.2 else tt.1) = z by simp only [if_true]; exact hz.out) (show kk * 2 + (if true then 1 else 0) = kk * 2 + 1 by simp only [if_true, Nat.add_zero]) hcp.out hC5.out hO6 hC6 hat; replace hMn := Lib.hid hMn; clear hO6 hC6 hat; refine hK _ _ ?_; clear hK K)
                            (try simp only [Act.put, List.setIfInBounds_toArray, List.set_cons_zero, List.set_cons_succ])
                            refine wpAny_take (i := 17) (v := ?_) rfl (by kernel_rfl) (by kernel_rfl) (by kernel_rfl) (fun _ _ _ h => h) (Or.inl ⟨by kernel_rfl, ?_⟩) ?_
                            rotate_left
                            · (intro w; go_simp; try with_reducible rfl)
                            change wpAny _ _ _ _ _ _ (Act.put _ (some 92) _) _
                            (try simp only [Act.put, List.setIfInBounds_toArray, List.set_cons_zero, List.set_cons_succ])
                            refine wpAny_take (i := 18) (v := ?_) rfl (by kernel_rfl) (by kernel_rfl) (by kernel_rfl) (fun _ _ _ h => h) (Or.inl ⟨by kernel_rfl, ?_⟩) ?_
                            rotate_left
                            · (intro w; go_simp; try with_reducible rfl)
                            change wpAny _ _ _ _ _ _ (Act.put _ (some 93) _) _
                            (try simp only [Act.put, List.setIfInBounds_toArray, List.set_cons_zero, List.set_cons_succ])
                            refine wpAny_ready (rs := [19]) (by kernel_rfl) (by simp) ?_
                            refine AllReady.cons rfl (fun K hK => ?_) ?_
                            · go_simp
                              (try (refine hK _ _ ?_; clear hK K))
                              (try simp only [Act.put, List.setIfInBounds_toArray, List.set_cons_zero, List.set_cons_succ])
                              refine wpAny_done (by kernel_rfl) ?_ _
                              (try simp only [Act.put, List.setIfInBounds_toArray, List.set_cons_zero, List.set_cons_succ])
                              clear q2 q3 x2d ycd s0 s1 hr5 hnw hbs hC5 hG
                              go_wp2_with fail
                              go_roundg (y.length - (j + 1))
                              case measure => omega
                              case rel => exact ⟨j + 1, kk + 1, _, c3, _, addLast (rr ++ [tt]) true [x], true, by go_num, rfl, rfl, by omega, rfl, by omega, Lib.hid (by rw [hst3.out]; exact hend.out), Lib.hid (by have := htt3.out.1; rw [hend.out] at this; exact this), hMn⟩
                            exact AllReady.nil
                          exact AllReady.nil
                        exact AllReady.nil
                      exact AllReady.nil
                    refine AllReady.cons rfl (fun K hK => ?_) ?_
                    · go_simp
                      (try (refine hK _ _ ?_; clear hK K))
                      (try simp only [Act.put, List.setIfInBounds_toArray, List.set_cons_zero, List.set_cons_succ])
                      refine wpAny_ready (rs := [6, 15]) (by kernel_rfl) (by simp) ?_
                      refine AllReady.cons rfl (fun K hK => ?_) ?_
                      · go_simp
                        (try (refine hK _ _ ?_; clear hK K))
                        (try simp only [Act.put, List.setIfInBounds_toArray, List.set_cons_zero, List.set_cons_succ])
                        refine wpAny_ready (rs := [15]) (by kernel_rfl) (by simp) ?_
                        refine AllReady.cons rfl (fun K hK => ?_) ?_
                        · go_simp
                          (try (refine hK _ _ ?_; clear hK K))
                          (try simp only [Act.put, List.setIfInBounds_toArray, List.set_cons_zero, List.set_cons_succ])
                          refine wpAny_ready (rs := [16]) (by kernel_rfl) (by simp) ?_
                          refine AllReady.cons rfl (fun K hK => ?_) ?_
                          · (refine step_append_sl rfl (.tmp 81) (.tmp 90) 35 rfl w.heap.size 5 (.int .u8 0) 1 1 Tryd.underlying35 Tryd.info_u8 rfl (by decide) (.slice A0 z.length c0) z.length (cellsOf .u8 (ns z)) hr5.out rfl _ 1 [.int .u8 x.toNat] hnw.out rfl (by intro u hu; simp at hu; subst hu; rfl) (z.length + 1) rfl (by omega) (by decide) hbs.out ?_; intro A6 c6 w6 hO6 hC6 hat; obtain ⟨⟨s0, s1⟩, hMn⟩ := hG.out.grow (d := true) (x := x) hKr.out (show (if true then tt.2 else tt.1) = z by simp only [if_true]; exact hz.out) (show kk * 2 + (if true then 1 else 0) = kk * 2 + 1 by simp only [if_true, Nat.add_zero]) hcp.out hC5.out hO6 hC6 hat; replace hMn := Lib.hid hMn; clear hO6 hC6 hat; refine hK _ _ ?_; clear hK K)
                            (try simp only [Act.put, List.setIfInBounds_toArray, List.set_cons_zero, List.set_cons_succ])
                            refine wpAny_take (i := 17) (v := ?_) rfl (by kernel_rfl) (by kernel_rfl) (by kernel_rfl) (fun _ _ _ h => h) (Or.inl ⟨by kernel_rfl, ?_⟩) ?_
                            rotate_left
                            · (intro w; go_simp; try with_reducible rfl)
                            change wpAny _ _ _ _ _ _ (Act.put _ (some 92) _) _
                            (try simp only [Act.put, List.setIfInBounds_toArray, List.set_cons_zero, List.set_cons_succ])
                            refine wpAny_take (i := 18) (v := ?_) rfl (by kernel_rfl) (by kernel_rfl) (by kernel_rfl) (fun _ _ _ h => h) (Or.inl ⟨by kernel_rfl, ?_⟩) ?_
                            rotate_left
                            · (intro w; go_simp; try with_reducible rfl)
                            change wpAny _ _ _ _ _ _ (Act.put _ (some 93) _) _
                            (try simp only [Act.put, List.setIfInBounds_toArray, List.set_cons_zero, List.set_cons_succ])
                            refine wpAny_ready (rs := [19]) (by kernel_rfl) (by simp) ?_
                            refine AllReady.cons rfl (fun K hK => ?_) ?_
                            · go_simp
                              (try (refine hK _ _ ?_; clear hK K))
                              (try simp only [Act.put, List.setIfInBounds_toArray, List.set_cons_zero, List.set_cons_succ])
                              refine wpAny_done (by kernel_rfl) ?_ _
                              (try simp only [Act.put, List.setIfInBounds_toArray, List.set_cons_zero, List.set_cons_succ])
                              clear q2 q3 x2d ycd s0 s1 hr5 hnw hbs hC5 hG
                              go_wp2_with fail
                              go_roundg (y.length - (j + 1))
                              case measure => omega
                              case rel => exact ⟨j + 1, kk + 1, _, c3, _, addLast (rr ++ [tt]) true [x], true, by go_num, rfl, rfl, by omega, rfl, by omega, Lib.hid (by rw [hst3.out]; exact hend.out), Lib.hid (by have := htt3.out.1; rw [hend.out] at this; exact this), hMn⟩
                            exact AllReady.nil
                          exact AllReady.nil
                        exact AllReady.nil
                      refine AllReady.cons rfl (fun K hK => ?_) ?_
                      · go_simp
                        (try (refine hK _ _ ?_; clear hK K))
                        (try simp only [Act.put, List.setIfInBounds_toArray, List.set_cons_zero, List.set_cons_succ])
                        refine wpAny_ready (rs := [6]) (by kernel_rfl) (by simp) ?_
                        refine AllReady.cons rfl (fun K hK => ?_) ?_
                        · go_simp
                          (try (refine hK _ _ ?_; clear hK K))
                          (try simp only [Act.put, List.setIfInBounds_toArray, List.set_cons_zero, List.set_cons_succ])
                          refine wpAny_ready (rs := [16]) (by kernel_rfl) (by simp) ?_
                          refine AllReady.cons rfl (fun K hK => ?_) ?_
                          · (refine step_append_sl rfl (.tmp 81) (.tmp 90) 35 rfl w.heap.size 5 (.int .u8 0) 1 1 Tryd.underlying35 Tryd.info_u8 rfl (by decide) (.slice A0 z.length c0) z.length (cellsOf .u8 (ns z)) hr5.out rfl _ 1 [.int .u8 x.toNat] hnw.out rfl (by intro u hu; simp at hu; subst hu; rfl) (z.length + 1) rfl (by omega) (by decide) hbs.out ?_; intro A6 c6 w6 hO6 hC6 hat; obtain ⟨⟨s0, s1⟩, hMn⟩ := hG.out.grow (d := true) (x := x) hKr.out (show (if true then tt.2 else tt.1) = z by simp only [if_true]; exact hz.out) (show kk * 2 + (if true then 1 else 0) = kk * 2 + 1 by simp only [if_true, Nat.add_zero]) hcp.out hC5.out hO6 hC6 hat; replace hMn := Lib.hid hMn; clear hO6 hC6 hat; refine hK _ _ ?_; clear hK K)
                            (try simp only [Act.put, List.setIfInBounds_toArray, List.set_cons_zero, List.set_cons_succ])
                            refine wpAny_take (i := 17) (v := ?_) rfl (by kernel_rfl) (by kernel_rfl) (by kernel_rfl) (fun _ _ _ h => h) (Or.inl ⟨by kernel_rfl, ?_⟩) ?_
                            rotate_left
                            · (intro w; go_simp; try with_reducible rfl)
                            change wpAny _ _ _ _ _ _ (Act.put _ (some 92) _) _
                            (try simp only [Act.put, List.setIfInBounds_toArray, List.set_cons_zero, List.set_cons_succ])
                            refine wpAny_take (i := 18) (v := ?_) rfl (by kernel_rfl) (by kernel_rfl) (by kernel_rfl) (fun _ _ _ h => h) (Or.inl ⟨by kernel_rfl, ?_⟩) ?_
                            rotate_left
                            · (intro w; go_simp; try with_reducible rfl)
                            change wpAny _ _ _ _ _ _ (Act.put _ (some 93) _) _
                            (try simp only [Act.put, List.setIfInBounds_toArray, List.set_cons_zero, List.set_cons_succ])
                            refine wpAny_ready (rs := [19]) (by kernel_rfl) (by simp) ?_
                            refine AllReady.cons rfl (fun K hK => ?_) ?_
                            · go_simp
                              (try (refine hK _ _ ?_; clear hK K))
                              (try simp only [Act.put, List.setIfInBounds_toArray, List.set_cons_zero, List.set_cons_succ])
                              refine wpAny_done (by kernel_rfl) ?_ _
                              (try simp only [Act.put, List.setIfInBounds_toArray, List.set_cons_zero, List.set_cons_succ])
                              clear q2 q3 x2d ycd s0 s1 hr5 hnw hbs hC5 hG
                              go_wp2_with fail
                              go_roundg (y.length - (j + 1))
                              case measure => omega
                              case rel => exact ⟨j + 1, kk + 1, _, c3, _, addLast (rr ++ [tt]) true [x], true, by go_num, rfl, rfl, by omega, rfl, by omega, Lib.hid (by rw [hst3.out]; exact hend.out), Lib.hid (by have := htt3.out.1; rw [hend.out] at this; exact this), hMn⟩
                            exact AllReady.nil
                          exact AllReady.nil
                        exact AllReady.nil
                      exact AllReady.nil
                    exact AllReady.nil
                  exact AllReady.nil
                | false =>
                  subst hla
                  have hcond : Hid (¬ (ts' = [] ∨ ((true : Bool) = false ∧ (false : Bool) = true))) := Lib.hid (by rintro (h | ⟨h, -⟩); exact hne h; cases h)
                  obtain ⟨rr, tt, rfl⟩ : ∃ (rr : List Tn) (tt : Tn), ts' = rr ++ [tt] := ⟨ts'.dropLast, ts'.getLast hne, (List.dropLast_concat_getLast hne).symm⟩
                  obtain rfl : k = rr.length + 1 := by have := hO.out.hk; simp at this; omega
                  obtain ⟨kk, hKr⟩ : ∃ kk, rr.length = kk := ⟨_, rfl⟩
                  rw [hKr] at hO hk hkb hk0 hk0b htt3 ⊢
                  obtain ⟨g3, rfl, hg3⟩ := own_some hO.out.own (by omega)
                  obtain ⟨c9, hc9⟩ : ∃ c9, c3 = c9 := ⟨_, rfl⟩
                  subst hc9
                  have hG := hO
                  replace hKr := Lib.hid hKr
                  have hGt : Hid (totT (rr ++ [tt]) ≤ 262144) := Lib.hid (by have := htt.out; omega)
                  have hbr : Hid (addB (rr ++ [tt], false) true x = (addLast (rr ++ [tt]) true [x], true)) := Lib.hid (by unfold addB; exact congrArg (fun z => (addLast z true [x], true)) (if_neg hcond.out))
                  clear hne
                  
                  obtain ⟨A0, c0, hcp, hrow⟩ := hG.out.rw.2.1 (kk * 2 + 1) tt.2 (by have := flat_get (ts := rr ++ [tt]) (j := kk) (t := tt) (by rw [← hKr.out]; simp); exact this.2)
                  obtain ⟨z, hz⟩ : ∃ z, tt.2 = z := ⟨_, rfl⟩
                  rw [hz] at hcp hrow
                  have hzl : z.length ≤ 262144 := by
                    have h1 := hGt.out
                    rw [totT_append] at h1
                    unfold totT at h1
                    simp only [List.map_cons, List.map_nil, List.sum_cons, List.sum_nil] at h1
                    rw [← hz]
                    omega
                  have zz := (own_cell hG.out.own hcp).1
                  have q2 : wr.drew.cell? ⟨g3, kk * 2 + 1, none⟩ = some (.slice A0 z.length c0) := zz
                  have x2d : wr.drew.cell? ⟨b, o + i * 3 + 2, none⟩ = some (.slice (some ⟨by', oy, none⟩) y.length c') := hG.out.C.cell x2.out (by simp)
                  have ycd : wr.drew.cell? ⟨by', oy + j, none⟩ = some (.int .u8 x.toNat) := hG.out.C.cell hyc.out (by simp)
                  have q3 : ((wr.alloc (.cells #[.int .u8 x.toNat] 5 (0, 0))).drew).cell? ⟨g3, kk * 2 + 1, none⟩ = some (.slice A0 z.length c0) := (((Chg.refl [] wr).alloc _).drew).cell zz (by simp)
                  have hC5 : Chg [] wr ((wr.alloc (.cells #[.int .u8 x.toNat] 5 (0, 0))).drew) := ((Chg.refl [] wr).alloc _).drew
                  have hr5 := Lib.hid (own_chg hrow hC5 (by simp))
                  have hnw : Hid (Sl ((wr.alloc (.cells #[.int .u8 x.toNat] 5 (0, 0))).drew) 1 (.slice (some ⟨wr.heap.size, 0, none⟩) 1 1) 1 [.int .u8 x.toNat]) := Lib.hid ((sl_new wr [.int .u8 x.toNat] 5 1 rfl (by decide)).chg ((Chg.refl [] _).drew) (by simp))
                  have hbs := Lib.hid (Nat.le_trans hG.out.C.size hC5.size)
                  have hi1 : (j : Int) < (y.length : Int) := by omega
                  have hi2 : (i : Int) < (n : Int) := by omega
                  have hi3 : (kk : Int) < ((kk + 1 : Nat) : Int) := by omega
                  have hi4 : (kk : Int) < (kk : Int) + 1 := by omega
                  have hwk := IntWalk.i64_in (kk : Int) (by omega)
                  replace hC5 := Lib.hid hC5
                  replace hcp := Lib.hid hcp
                  replace hz := Lib.hid hz
                  have hend : Hid (addB (rr ++ [tt], false) true x = (addLast (rr ++ [tt]) true [x], true)) := hbr
                  clear zz hrow
                  go_wp2_with fail
                  refine wp_region_any (by kernel_rfl) ?_
                  (try (change wpAny _ _ _ _ _ _ _ (World.drew _)))
                  refine wpAny_take (i := 0) (v := ?_) rfl (by kernel_rfl) (by kernel_rfl) (by kernel_rfl) (fun _ _ _ h => h) (Or.inl ⟨by kernel_rfl, ?_⟩) ?_
                  rotate_left
                  · (intro w; go_simp; try with_reducible rfl)
                  change wpAny _ _ _ _ _ _ (Act.put _ (some 75) _) _
                  (try simp only [Act.put, List.setIfInBounds_toArray, List.set_cons_zero, List.set_cons_succ])
                  refine wpAny_take (i := 1) (v := ?_) rfl (by kernel_rfl) (by kernel_rfl) (by kernel_rfl) (fun _ _ _ h => h) (Or.inl ⟨by kernel_rfl, ?_⟩) ?_
                  rotate_left
                  · (intro w; go_simp; try with_reducible rfl)
                  change wpAny _ _ _ _ _ _ (Act.put _ (some 76) _) _
                  (try simp only [Act.put, List.setIfInBounds_toArray, List.set_cons_zero, List.set_cons_succ])
                  refine wpAny_take (i := 2) (v := ?_) rfl (by kernel_rfl) (by kernel_rfl) (by kernel_rfl) (fun _ _ _ h => h) (Or.inl ⟨by kernel_rfl, ?_⟩) ?_
                  rotate_left
                  · (intro w; go_simp; try with_reducible rfl)
                  change wpAny _ _ _ _ _ _ (Act.put _ (some 77) _) _
                  (try simp only [Act.put, List.setIfInBounds_toArray, List.set_cons_zero, List.set_cons_succ])
                  refine wpAny_take (i := 3) (v := ?_) rfl (by kernel_rfl) (by kernel_rfl) (by kernel_rfl) (fun _ _ _ h => h) (Or.inl ⟨by kernel_rfl, ?_⟩) ?_
                  rotate_left
                  · (intro w; go_simp; try with_reducible rfl)
                  change wpAny _ _ _ _ _ _ (Act.put _ (some 78) _) _
                  (try simp only [Act.put, List.setIfInBounds_toArray, List.set_cons_zero, List.set_cons_succ])
                  refine wpAny_take (i := 4) (v := ?_) rfl (by kernel_rfl) (by kernel_rfl) (by kernel_rfl) (fun _ _ _ h => h) (Or.inl ⟨by kernel_rfl, ?_⟩) ?_
                  rotate_left
                  · (intro w; go_simp; try with_reducible rfl)
                  change wpAny _ _ _ _ _ _ (Act.put _ (some 79) _) _
                  (try simp only [Act.put, List.setIfInBounds_toArray, List.set_cons_zero, List.set_cons_succ])
                  refine wpAny_take (i := 5) (v := ?_) rfl (by kernel_rfl) (by kernel_rfl) (by kernel_rfl) (fun _ _ _ h => h) (Or.inl ⟨by kernel_rfl, ?_⟩) ?_
                  rotate_left
                  · (intro w; go_simp; try with_reducible rfl)
                  change wpAny _ _ _ _ _ _ (Act.put _ (some 80) _) _
                  (try simp only [Act.put, List.setIfInBounds_toArray, List.set_cons_zero, List.set_cons_succ])
                  refine wpAny_take (i := 7) (v := ?_) rfl (by kernel_rfl) (by kernel_rfl) (by kernel_rfl) (fun _ _ _ h => h) (Or.inl ⟨by kernel_rfl, ?_⟩) ?_
                  rotate_left
                  · (intro w; go_simp; try with_reducible rfl)
                  change wpAny _ _ _ _ _ _ (Act.put _ (some 82) _) _
                  (try simp only [Act.put, List.setIfInBounds_toArray, List.set_cons_zero, List.set_cons_succ])
                  refine wpAny_take (i := 8) (v := ?_) rfl (by kernel_rfl) (by kernel_rfl) (by kernel_rfl) (fun _ _ _ h => h) (Or.inl ⟨by kernel_rfl, ?_⟩) ?_
                  rotate_left
                  · (intro w; go_simp; try with_reducible rfl)
                  change wpAny _ _ _ _ _ _ (Act.put _ (some 83) _) _
                  (try simp only [Act.put, List.setIfInBounds_toArray, List.set_cons_zero, List.set_cons_succ])
                  refine wpAny_take (i := 9) (v := ?_) rfl (by kernel_rfl) (by kernel_rfl) (by kernel_rfl) (fun _ _ _ h => h) (Or.inl ⟨by kernel_rfl, ?_⟩) ?_
                  rotate_left
                  · (intro w; go_simp; try with_reducible rfl)
                  change wpAny _ _ _ _ _ _ (Act.put _ (some 84) _) _
                  (try simp only [Act.put, List.setIfInBounds_toArray, List.set_cons_zero, List.set_cons_succ])
                  refine wpAny_take (i := 10) (v := ?_) rfl (by kernel_rfl) (by kernel_rfl) (by kernel_rfl) (fun _ _ _ h => h) (Or.inl ⟨by kernel_rfl, ?_⟩) ?_
                  rotate_left
                  · (intro w; go_simp; try with_reducible rfl)
                  change wpAny _ _ _ _ _ _ (Act.put _ (some 85) _) _
                  (try simp only [Act.put, List.setIfInBounds_toArray, List.set_cons_zero, List.set_cons_succ])
                  refine wpAny_take (i := 12) (v := ?_) rfl (by kernel_rfl) (by kernel_rfl) (by kernel_rfl) (fun _ _ _ h => h) (Or.inl ⟨by kernel_rfl, ?_⟩) ?_
                  rotate_left
                  · (intro w; go_simp; try with_reducible rfl)
                  change wpAny _ _ _ _ _ _ (Act.put _ (some 87) _) _
                  (try simp only [Act.put, List.setIfInBounds_toArray, List.set_cons_zero, List.set_cons_succ])
                  refine wpAny_ready (rs := [6, 11]) (by kernel_rfl) (by simp) ?_
                  refine AllReady.cons rfl (fun K hK => ?_) ?_
                  · go_simp
                    (try (refine hK _ _ ?_; clear hK K))
                    (try simp only [Act.put, List.setIfInBounds_toArray, List.set_cons_zero, List.set_cons_succ])
                    refine wpAny_ready (rs := [11]) (by kernel_rfl) (by simp) ?_
                    refine AllReady.cons rfl (fun K hK => ?_) ?_
                    · go_simp
                      (try (refine hK _ _ ?_; clear hK K))
                      (try simp only [Act.put, List.setIfInBounds_toArray, List.set_cons_zero, List.set_cons_succ])
                      refine wpAny_take (i := 13) (v := ?_) rfl (by kernel_rfl) (by kernel_rfl) (by kernel_rfl) (fun _ _ _ h => h) (Or.inl ⟨by kernel_rfl, ?_⟩) ?_
                      rotate_left
                      · (intro w; go_simp; try with_reducible rfl)
                      change wpAny _ _ _ _ _ _ (Act.put _ (some 88) _) _
                      (try simp only [Act.put, List.setIfInBounds_toArray, List.set_cons_zero, List.set_cons_succ])
                      refine wpAny_ready (rs := [14]) (by kernel_rfl) (by simp) ?_
                      refine AllReady.cons rfl (fun K hK => ?_) ?_
                      · go_simp
                        (try (refine hK _ _ ?_; clear hK K))
                        (try simp only [Act.put, List.setIfInBounds_toArray, List.set_cons_zero, List.set_cons_succ])
                        refine wpAny_ready (rs := [15]) (by kernel_rfl) (by simp) ?_
                        refine AllReady.cons rfl (fun K hK => ?_) ?_
                        · go_simp
                          (try (refine hK _ _ ?_; clear hK K))
                          (try simp only [Act.put, List.setIfInBounds_toArray, List.set_cons_zero, List.set_cons_succ])
                          refine wpAny_ready (rs := [16]) (by kernel_rfl) (by simp) ?_
                          refine AllReady.cons rfl (fun K hK => ?_) ?_
                          · (refine step_append_sl rfl (.tmp 81) (.tmp 90) 35 rfl w.heap.size 5 (.int .u8 0) 1 1 Tryd.underlying35 Tryd.info_u8 rfl (by decide) (.slice A0 z.length c0) z.length (cellsOf .u8 (ns z)) hr5.out rfl _ 1 [.int .u8 x.toNat] hnw.out rfl (by intro u hu; simp at hu; subst hu; rfl) (z.length + 1) rfl (by omega) (by decide) hbs.out ?_; intro A6 c6 w6 hO6 hC6 hat; obtain ⟨⟨s0, s1⟩, hMn⟩ := hG.out.grow (d := true) (x := x) hKr.out (show (if true then tt.2 else tt.1) = z by simp only [if_true]; exact hz.out) (show kk * 2 + (if true then 1 else 0) = kk * 2 + 1 by simp only [if_true, Nat.add_zero]) hcp.out hC5.out hO6 hC6 hat; replace hMn := Lib.hid hMn; clear hO6 hC6 hat; refine hK _ _ ?_; clear hK K)
                            (try simp only [Act.put, List.setIfInBounds_toArray, List.set_cons_zero, List.set_cons_succ])
                            refine wpAny_take (i := 17) (v := ?_) rfl (by kernel_rfl) (by kernel_rfl) (by kernel_rfl) (fun _ _ _ h => h) (Or.inl ⟨by kernel_rfl, ?_⟩) ?_
                            rotate_left
                            · (intro w; go_simp; try with_reducible rfl)
                            change wpAny _ _ _ _ _ _ (Act.put _ (some 92) _) _
                            (try simp only [Act.put, List.setIfInBounds_toArray, List.set_cons_zero, List.set_cons_succ])
                            refine wpAny_take (i := 18) (v := ?_) rfl (by kernel_rfl) (by kernel_rfl) (by kernel_rfl) (fun _ _ _ h => h) (Or.inl ⟨by kernel_rfl, ?_⟩) ?_
                            rotate_left
                            · (intro w; go_simp; try with_reducible rfl)
                            change wpAny _ _ _ _ _ _ (Act.put _ (some 93) _) _
                            (try simp only [Act.put, List.setIfInBounds_toArray, List.set_cons_zero, List.set_cons_succ])
                            refine wpAny_ready (rs := [19]) (by kernel_rfl) (by simp) ?_
                            refine AllReady.cons rfl (fun K hK => ?_) ?_
                            · go_simp
                              (try (refine hK _ _ ?_; clear hK K))
                              (try simp only [Act.put, List.setIfInBounds_toArray, List.set_cons_zero, List.set_cons_succ])
                              refine wpAny_done (by kernel_rfl) ?_ _
                              (try simp only [Act.put, List.setIfInBounds_toArray, List.set_cons_zero, List.set_cons_succ])
                              clear q2 q3 x2d ycd s0 s1 hr5 hnw hbs hC5 hG
                              go_wp2_with fail
                              go_roundg (y.length - (j + 1))
                              case measure => omega
                              case rel => exact ⟨j + 1, kk + 1, _, c3, _, addLast (rr ++ [tt]) true [x], true, by go_num, rfl, rfl, by omega, rfl, by omega, Lib.hid (by rw [hst3.out]; exact hend.out), Lib.hid (by have := htt3.out.1; rw [hend.out] at this; exact this), hMn⟩
                            exact AllReady.nil
                          exact AllReady.nil
                        exact AllReady.nil
                      exact AllReady.nil
                    exact AllReady.nil
                  refine AllReady.cons rfl (fun K hK => ?_) ?_
                  · go_simp
                    (try (refine hK _ _ ?_; clear hK K))
                    (try simp only [Act.put, List.setIfInBounds_toArray, List.set_cons_zero, List.set_cons_succ])
                    refine wpAny_take (i := 13) (v := ?_) rfl (by kernel_rfl) (by kernel_rfl) (by kernel_rfl) (fun _ _ _ h => h) (Or.inl ⟨by kernel_rfl, ?_⟩) ?_
                    rotate_left
                    · (intro w; go_simp; try with_reducible rfl)
                    change wpAny _ _ _ _ _ _ (Act.put _ (some 88) _) _
                    (try simp only [Act.put, List.setIfInBounds_toArray, List.set_cons_zero, List.set_cons_succ])
                    refine wpAny_ready (rs := [6, 14]) (by kernel_rfl) (by simp) ?_
                    refine AllReady.cons rfl (fun K hK => ?_) ?_
                    · go_simp
                      (try (refine hK _ _ ?_; clear hK K))
                      (try simp only [Act.put, List.setIfInBounds_toArray, List.set_cons_zero, List.set_cons_succ])
                      refine wpAny_ready (rs := [14]) (by kernel_rfl) (by simp) ?_
                      refine AllReady.cons rfl (fun K hK => ?_) ?_
                      · go_simp
                        (try (refine hK _ _ ?_; clear hK K))
                        (try simp only [Act.put, List.setIfInBounds_toArray, List.set_cons_zero, List.set_cons_succ])
                        refine wpAny_ready (rs := [15]) (by kernel_rfl) (by simp) ?_
                        refine AllReady.cons rfl (fun K hK => ?_) ?_
                        · go_simp
                          (try (refine hK _ _ ?_; clear hK K))
                          (try simp only [Act.put, List.setIfInBounds_toArray, List.set_cons_zero, List.set_cons_succ])
                          refine wpAny_ready (rs := [16]) (by kernel_rfl) (by simp) ?_
                          refine AllReady.cons rfl (fun K hK => ?_) ?_
                          · (refine step_append_sl rfl (.tmp 81) (.tmp 90) 35 rfl w.heap.size 5 (.int .u8 0) 1 1 Tryd.underlying35 Tryd.info_u8 rfl (by decide) (.slice A0 z.length c0) z.length (cellsOf .u8 (ns z)) hr5.out rfl _ 1 [.int .u8 x.toNat] hnw.out rfl (by intro u hu; simp at hu; subst hu; rfl) (z.length + 1) rfl (by omega) (by decide) hbs.out ?_; intro A6 c6 w6 hO6 hC6 hat; obtain ⟨⟨s0, s1⟩, hMn⟩ := hG.out.grow (d := true) (x := x) hKr.out (show (if true then tt.2 else tt.1) = z by simp only [if_true]; exact hz.out) (show kk * 2 + (if true then 1 else 0) = kk * 2 + 1 by simp only [if_true, Nat.add_zero]) hcp.out hC5.out hO6 hC6 hat; replace hMn := Lib.hid hMn; clear hO6 hC6 hat; refine hK _ _ ?_; clear hK K)
                            (try simp only [Act.put, List.setIfInBounds_toArray, List.set_cons_zero, List.set_cons_succ])
                            refine wpAny_take (i := 17) (v := ?_) rfl (by kernel_rfl) (by kernel_rfl) (by kernel_rfl) (fun _ _ _ h => h) (Or.inl ⟨by kernel_rfl, ?_⟩) ?_
                            rotate_left
                            · (intro w; go_simp; try with_reducible rfl)
                            change wpAny _ _ _ _ _ _ (Act.put _ (some 92) _) _
                            (try simp only [Act.put, List.setIfInBounds_toArray, List.set_cons_zero, List.set_cons_succ])
                            refine wpAny_take (i := 18) (v := ?_) rfl (by kernel_rfl) (by kernel_rfl) (by kernel_rfl) (fun _ _ _ h => h) (Or.inl ⟨by kernel_rfl, ?_⟩) ?_
                            rotate_left
                            · (intro w; go_simp; try with_reducible rfl)
                            change wpAny _ _ _ _ _ _ (Act.put _ (some 93) _) _
                            (try simp only [Act.put, List.setIfInBounds_toArray, List.set_cons_zero, List.set_cons_succ])
                            refine wpAny_ready (rs := [19]) (by kernel_rfl) (by simp) ?_
                            refine AllReady.cons rfl (fun K hK => ?_) ?_
                            · go_simp
                              (try (refine hK _ _ ?_; clear hK K))
                              (try simp only [Act.put, List.setIfInBounds_toArray, List.set_cons_zero, List.set_cons_succ])
                              refine wpAny_done (by kernel_rfl) ?_ _
                              (try simp only [Act.put, List.setIfInBounds_toArray, List.set_cons_zero, List.set_cons_succ])
                              clear q2 q3 x2d ycd s0 s1 hr5 hnw hbs hC5 hG
                              go_wp2_with fail
                              go_roundg (y.length - (j + 1))
                              case measure => omega
                              case rel => exact ⟨j + 1, kk + 1, _, c3, _, addLast (rr ++ [tt]) true [x], true, by go_num, rfl, rfl, by omega, rfl, by omega, Lib.hid (by rw [hst3.out]; exact hend.out), Lib.hid (by have := htt3.out.1; rw [hend.out] at this; exact this), hMn⟩
                            exact AllReady.nil
                          exact AllReady.nil
                        exact AllReady.nil
                      exact AllReady.nil
                    refine AllReady.cons rfl (fun K hK => ?_) ?_
                    · go_simp
                      (try (refine hK _ _ ?_; clear hK K))
                      (try simp only [Act.put, List.setIfInBounds_toArray, List.set_cons_zero, List.set_cons_succ])
                      refine wpAny_ready (rs := [6, 15]) (by kernel_rfl) (by simp) ?_
                      refine AllReady.cons rfl (fun K hK => ?_) ?_
                      · go_simp
                        (try (refine hK _ _ ?_; clear hK K))
                        (try simp only [Act.put, List.setIfInBounds_toArray, List.set_cons_zero, List.set_cons_succ])
                        refine wpAny_ready (rs := [15]) (by kernel_rfl) (by simp) ?_
                        refine AllReady.cons rfl (fun K hK => ?_) ?_
                        · go_simp
                          (try (refine hK _ _ ?_; clear hK K))
                          (try simp only [Act.put, List.setIfInBounds_toArray, List.set_cons_zero, List.set_cons_succ])
                          refine wpAny_ready (rs := [16]) (by kernel_rfl) (by simp) ?_
                          refine AllReady.cons rfl (fun K hK => ?_) ?_
                          · (refine step_append_sl rfl (.tmp 81) (.tmp 90) 35 rfl w.heap.size 5 (.int .u8 0) 1 1 Tryd.underlying35 Tryd.info_u8 rfl (by decide) (.slice A0 z.length c0) z.length (cellsOf .u8 (ns z)) hr5.out rfl _ 1 [.int .u8 x.toNat] hnw.out rfl (by intro u hu; simp at hu; subst hu; rfl) (z.length + 1) rfl (by omega) (by decide) hbs.out ?_; intro A6 c6 w6 hO6 hC6 hat; obtain ⟨⟨s0, s1⟩, hMn⟩ := hG.out.grow (d := true) (x := x) hKr.out (show (if true then tt.2 else tt.1) = z by simp only [if_true]; exact hz.out) (show kk * 2 + (if true then 1 else 0) = kk * 2 + 1 by simp only [if_true, Nat.add_zero]) hcp.out hC5.out hO6 hC6 hat; replace hMn := Lib.hid hMn; clear hO6 hC6 hat; refine hK _ _ ?_; clear hK K)
                            (try simp only [Act.put, List.setIfInBounds_toArray, List.set_cons_zero, List.set_cons_succ])
                            refine wpAny_take (i := 17) (v := ?_) rfl (by kernel_rfl) (by kernel_rfl) (by kernel_rfl) (fun _ _ _ h => h) (Or.inl ⟨by kernel_rfl, ?_⟩) ?_
                            rotate_left
                            · (intro w; go_simp; try with_reducible rfl)
                            change wpAny _ _ _ _ _ _ (Act.put _ (some 92) _) _
                            (try simp only [Act.put, List.setIfInBounds_toArray, List.set_cons_zero, List.set_cons_succ])
                            refine wpAny_take (i := 18) (v := ?_) rfl (by kernel_rfl) (by kernel_rfl) (by kernel_rfl) (fun _ _ _ h => h) (Or.inl ⟨by kernel_rfl, ?_⟩) ?_
                            rotate_left
                            · (intro w; go_simp; try with_reducible rfl)
                            change wpAny _ _ _ _ _ _ (Act.put _ (some 93) _) _
                            (try simp only [Act.put, List.setIfInBounds_toArray, List.set_cons_zero, List.set_cons_succ])
                            refine wpAny_ready (rs := [19]) (by kernel_rfl) (by simp) ?_
                            refine AllReady.cons rfl (fun K hK => ?_) ?_
                            · go_simp
                              (try (refine hK _ _ ?_; clear hK K))
                              (try simp only [Act.put, List.setIfInBounds_toArray, List.set_cons_zero, List.set_cons_succ])
                              refine wpAny_done (by kernel_rfl) ?_ _
                              (try simp only [Act.put, List.setIfInBounds_toArray, List.set_cons_zero, List.set_cons_succ])
                              clear q2 q3 x2d ycd s0 s1 hr5 hnw hbs hC5 hG
                              go_wp2_with fail
                              go_roundg (y.length - (j + 1))
                              case measure => omega
                              case rel => exact ⟨j + 1, kk + 1, _, c3, _, addLast (rr ++ [tt]) true [x], true, by go_num, rfl, rfl, by omega, rfl, by omega, Lib.hid (by rw [hst3.out]; exact hend.out), Lib.hid (by have := htt3.out.1; rw [hend.out] at this; exact this), hMn⟩
                            exact AllReady.nil
                          exact AllReady.nil
                        exact AllReady.nil
                      refine AllReady.cons rfl (fun K hK => ?_) ?_
                      · go_simp
                        (try (refine hK _ _ ?_; clear hK K))
                        (try simp only [Act.put, List.setIfInBounds_toArray, List.set_cons_zero, List.set_cons_succ])
                        refine wpAny_ready (rs := [6]) (by kernel_rfl) (by simp) ?_
                        refine AllReady.cons rfl (fun K hK => ?_) ?_
                        · go_simp
                          (try (refine hK _ _ ?_; clear hK K))
                          (try simp only [Act.put, List.setIfInBounds_toArray, List.set_cons_zero, List.set_cons_succ])
                          refine wpAny_ready (rs := [16]) (by kernel_rfl) (by simp) ?_
                          refine AllReady.cons rfl (fun K hK => ?_) ?_
                          · (refine step_append_sl rfl (.tmp 81) (.tmp 90) 35 rfl w.heap.size 5 (.int .u8 0) 1 1 Tryd.underlying35 Tryd.info_u8 rfl (by decide) (.slice A0 z.length c0) z.length (cellsOf .u8 (ns z)) hr5.out rfl _ 1 [.int .u8 x.toNat] hnw.out rfl (by intro u hu; simp at hu; subst hu; rfl) (z.length + 1) rfl (by omega) (by decide) hbs.out ?_; intro A6 c6 w6 hO6 hC6 hat; obtain ⟨⟨s0, s1⟩, hMn⟩ := hG.out.grow (d := true) (x := x) hKr.out (show (if true then tt.2 else tt.1) = z by simp only [if_true]; exact hz.out) (show kk * 2 + (if true then 1 else 0) = kk * 2 + 1 by simp only [if_true, Nat.add_zero]) hcp.out hC5.out hO6 hC6 hat; replace hMn := Lib.hid hMn; clear hO6 hC6 hat; refine hK _ _ ?_; clear hK K)
                            (try simp only [Act.put, List.setIfInBounds_toArray, List.set_cons_zero, List.set_cons_succ])
                            refine wpAny_take (i := 17) (v := ?_) rfl (by kernel_rfl) (by kernel_rfl) (by kernel_rfl) (fun _ _ _ h => h) (Or.inl ⟨by kernel_rfl, ?_⟩) ?_
                            rotate_left
                            · (intro w; go_simp; try with_reducible rfl)
                            change wpAny _ _ _ _ _ _ (Act.put _ (some 92) _) _
                            (try simp only [Act.put, List.setIfInBounds_toArray, List.set_cons_zero, List.set_cons_succ])
                            refine wpAny_take (i := 18) (v := ?_) rfl (by kernel_rfl) (by kernel_rfl) (by kernel_rfl) (fun _ _ _ h => h) (Or.inl ⟨by kernel_rfl, ?_⟩) ?_
                            rotate_left
                            · (intro w; go_simp; try with_reducible rfl)
                            change wpAny _ _ _ _ _ _ (Act.put _ (some 93) _) _
                            (try simp only [Act.put, List.setIfInBounds_toArray, List.set_cons_zero, List.set_cons_succ])
                            refine wpAny_ready (rs := [19]) (by kernel_rfl) (by simp) ?_
                            refine AllReady.cons rfl (fun K hK => ?_) ?_
                            · go_simp
                              (try (refine hK _ _ ?_; clear hK K))
                              (try simp only [Act.put, List.setIfInBounds_toArray, List.set_cons_zero, List.set_cons_succ])
                              refine wpAny_done (by kernel_rfl) ?_ _
                              (try simp only [Act.put, List.setIfInBounds_toArray, List.set_cons_zero, List.set_cons_succ])
                              clear q2 q3 x2d ycd s0 s1 hr5 hnw hbs hC5 hG
                              go_wp2_with fail
                              go_roundg (y.length - (j + 1))
                              case measure => omega
                              case rel => exact ⟨j + 1, kk + 1, _, c3, _, addLast (rr ++ [tt]) true [x], true, by go_num, rfl, rfl, by omega, rfl, by omega, Lib.hid (by rw [hst3.out]; exact hend.out), Lib.hid (by have := htt3.out.1; rw [hend.out] at this; exact this), hMn⟩
                            exact AllReady.nil
                          exact AllReady.nil
                        exact AllReady.nil
                      exact AllReady.nil
                    exact AllReady.nil
                  exact AllReady.nil
            -- END OF SIX WAYS
          · obtain rfl : j = y.length := by omega
            have hfin : Hid ((sel (l.take (i + 1))).foldl addBs ([], true) = (ts', la')) := Lib.hid (by rw [hst2.out, ← hf2.out, List.take_length])
            clear hf2 hst2
            go_wp2_with fail
            go_roundg (n - (i + 1))
            case measure => omega
            case rel => exact ⟨i + 1, k, A3, c3, cs, ts', la', by go_num, rfl, rfl, by omega, rfl, by have := htc.out; omega, hfin, Lib.hid (by have := htc.out; have := htt.out; omega), hO⟩
      · have hse : selE (d, y) = none := by unfold selE; rw [if_neg (fun h => hd (.inl h)), if_neg (fun h => hd (.inr h))]
        have hst2 : Hid ((sel (l.take (i + 1))).foldl addBs ([], true) = (ts, la)) := Lib.hid (by rw [hst.out, hse])
        have hd0 : (d != 0) = true := by simp; omega
        have hd1 : (d != 1) = true := by simp; omega
        clear hse hst
        go_wp2_with fail
        go_loopg [3, 4, 6, 7] y.length (fun gk v3 v4 v6 v7 wr => ∃ j : Nat, v6 = .int .i64 j ∧ v3 = .slice A3 k c3 ∧ v4 = .int .i64 (dz la) ∧ j ≤ y.length ∧ gk = y.length - j ∧ Hid (OSt w wr A3 k c3 cs ts))
        case atStart => exact ⟨0, rfl, rfl, rfl, by omega, by omega, hO⟩
        case round =>
          clear hO
          obtain ⟨j, rfl, rfl, rfl, hj, rfl, hO⟩ := hrel
          have x0' := hO.out.C.cell x0.out (by simp)
          have x2' := hO.out.C.cell x2.out (by simp)
          by_cases hlj : j < y.length
          · go_wp2_with fail
            go_roundg (y.length - (j + 1))
            case measure => omega
            case rel => exact ⟨j + 1, by go_num, rfl, rfl, by omega, rfl, hO⟩
          · go_wp2_with fail
            go_roundg (n - (i + 1))
            case measure => omega
            case rel => exact ⟨i + 1, k, A3, c3, cs, ts, la, by go_num, rfl, rfl, by omega, rfl, by have := htc.out; omega, hst2, Lib.hid (by have := htc.out; have := htt.out; omega), hO⟩
    · obtain rfl : i = n := by omega
      have hfin : Hid (OfEnd w (refT (sel l)).1 (.returned (.slice A3 k c3)) wr) := Lib.hid (by
        have h9 := hf.out
        rw [List.take_of_length_le (by rw [hn.out]; exact Nat.le_refl _)] at h9
        unfold refT
        rw [h9]
        have hkk := hO.out.hk
        unfold OfEnd
        simp only
        rw [hkk]
        exact ⟨_, _, _, rfl, hO.out⟩)
      clear hS hE hf hO
      go_wp2_with fail
      go_ret
      exact hfin.out
end Ow
end Go.Proofs.YtncoedoiakaedaaDoor
