/- Contract of package turn's right. Conditions: as it states. -/
import Derived.Test.YtncoedoiakaedaaDoorMerge
set_option linter.unusedVariables false
set_option linter.unusedSimpArgs false
namespace Go.Proofs.YtncoedoiakaedaaDoor
open Go.RowKit Turn Tl
namespace Ev_
/-- An event of both directions alone. -/
def selE (e : EI) : Option Ev := if e.1 = 0 then some (false, e.2) else if e.1 = 1 then some (true, e.2) else none
def sel (l : List EI) : List Ev := l.filterMap selE
theorem sel_succ {l : List EI} {i : Nat} {e : EI} (h : l[i]? = some e) : sel (l.take (i + 1)) = sel (l.take i) ++ (selE e).toList := by
  unfold sel
  rw [List.take_add_one, h, List.filterMap_append]
  cases he : selE e <;> simp [he]
theorem selE_toI {e : EI} {v : Ev} (h : selE e = some v) : toI v = e := by
  unfold selE at h
  split at h
  · rename_i h0; cases h; show (dz false, e.2) = e; rw [show dz false = e.1 from h0.symm]
  · split at h
    · rename_i h0; cases h; show (dz true, e.2) = e; rw [show dz true = e.1 from h0.symm]
    · cases h
def totI (l : List EI) : Nat := (l.map (fun e => e.2.length)).sum
theorem sel_tot (l : List EI) : ((sel l).map (fun e => e.2.length)).sum ≤ totI l := by
  unfold sel totI
  induction l with
  | nil => simp
  | cons e l ih =>
    cases he : selE e with
    | none => rw [List.filterMap_cons_none he]; simp; omega
    | some v =>
      rw [List.filterMap_cons_some he]
      have : v.2 = e.2 := by rw [← selE_toI he]; rfl
      simp [this]; omega
theorem sel_len (l : List EI) : (sel l).length ≤ l.length := List.length_filterMap_le _ _
theorem EvO.weak {w : World} {base base' : Nat} {cells : List Value} {m : List Ev} (h : EvO w base cells m) (hb : base' ≤ base) : EvO w base' cells m := by
  refine ⟨h.1, fun j e hj => ?_, h.2.2⟩
  obtain ⟨t, A, c, h1, h2, h3, h4⟩ := h.2.1 j e hj
  exact ⟨t, A, c, h1, h2, h3, own_weak h4 hb⟩
def RightEnd (w : World) (m : List Ev) (e : Ending) (w' : World) : Prop :=
  ∃ A c cells, e = .returned (.slice A m.length c) ∧ w'.ownsRow w.heap.size 37 3 (.slice A m.length c) m.length cells ∧ EvO w' w.heap.size cells m ∧ Chg [] w w'
set_option maxRecDepth 100000 in
set_option maxHeartbeats 4000000 in
theorem right_any (w : World) (l : List EI) (A : Option Addr) (n c : Nat) (cells : List Value) (hn : l.length = n) (hn2 : n ≤ 65536) (ht : totI l ≤ 16777216) (hS : Sl w 3 (.slice A n c) n cells) (hE : EvC w cells l) :
    Calls Tryd.prog 38 #[.slice A n c] w (RightEnd w (merge (sel l))) := by
  replace hn := Lib.hid hn
  replace ht := Lib.hid ht
  replace hS := Lib.hid hS
  replace hE := Lib.hid hE
  go_enter Tryd.func38, Tryd.ntmps38
  go_wp2_with fail
  go_loopg [3, 5, 8] n (fun gk v3 v5 v8 wr => ∃ (i k : Nat) (A3 : Option Addr) (c3 : Nat) (cs : List Value) (m : List Ev), v8 = .int .i64 i ∧ i ≤ n ∧ gk = n - i ∧ k ≤ i ∧ v3 = .slice A3 k c3 ∧ Hid (m.length = k) ∧ Hid (sel (l.take i) = m) ∧ Hid (wr.ownsRow w.heap.size 37 3 (.slice A3 k c3) k cs) ∧ Hid (EvC w cs (m.map toI)) ∧ Hid (Chg [] w wr))
  case atStart => exact ⟨0, 0, none, 0, [], [], rfl, by omega, by omega, by omega, rfl, Lib.hid rfl, Lib.hid (by simp [sel]), Lib.hid (World.ownsRow_nil _ _ _ _), Lib.hid (EvC.nil _), Lib.hid (Chg.refl _ _)⟩
  case round =>
    obtain ⟨i, k, A3, c3, cs, m, rfl, hi, rfl, hki, rfl, hmk, hm, hO, hEm, hC⟩ := hrel
    by_cases hlt : i < n
    · obtain ⟨e, he⟩ : ∃ e, l[i]? = some e := ⟨_, List.getElem?_eq_getElem (by have := hn.out; omega)⟩
      obtain ⟨b, o, rfl, hcell⟩ := Sl.at3 (hS.out.chg hC.out (by simp)) i hlt
      obtain ⟨t, A', c', h1, h2, h3, h4⟩ := hE.out.2 i e he
      have x0 := hcell 0 _ (by rw [Nat.add_zero]; exact h1)
      have x1 := hcell 1 _ h2
      have x2 := hcell 2 _ h3
      rw [Nat.add_zero] at x0
      have hsx := Lib.hid (show sel (l.take (i + 1)) = m ++ (selE e).toList by rw [sel_succ he, hm.out])
      obtain ⟨d, y⟩ := e
      simp only at x0 x1 x2 h4
      replace h4 := Lib.hid h4
      obtain ⟨W5, hW5⟩ : ∃ W5, (wr.alloc (.cells #[.int .i64 d, .int .i64 t, .slice A' y.length c'] 37 (0, 0))).alloc (.cells #[.int .i64 d, .int .i64 t, .slice A' y.length c'] 37 (0, 0)) = W5 := ⟨_, rfl⟩
      have hC5 : Chg [] wr W5 := by rw [← hW5]; exact ((Chg.refl [] wr).alloc _).alloc _
      have hO5 := Lib.hid (own_chg hO.out hC5 (by simp))
      have hnew : Hid (Sl W5 3 (.slice (some ⟨wr.heap.size + 1, 0, none⟩) 1 1) 1 [.int .i64 d, .int .i64 t, .slice A' y.length c']) := Lib.hid (by
        have h := sl_new3 (wr.alloc (.cells #[.int .i64 d, .int .i64 t, .slice A' y.length c'] 37 (0, 0))) (.int .i64 d) (.int .i64 t) (.slice A' y.length c') 37
        rw [hW5, size_alloc] at h; exact h)
      have hbs : Hid (w.heap.size ≤ W5.heap.size) := Lib.hid (Nat.le_trans hC.out.size hC5.size)
      replace hC5 := Lib.hid hC5
      have hsnoc : Hid (∀ v : Ev, selE (d, y) = some v → EvC w (cs ++ [.int .i64 d, .int .i64 t, .slice A' y.length c']) ((m ++ [v]).map toI)) := Lib.hid (fun v hv => by
        rw [List.map_append, List.map_cons, List.map_nil, selE_toI hv]
        exact hEm.out.snoc (d, y) t A' c' h4.out)
      clear hcell h1 h2 h3 he hS hE hm h4
      by_cases h0 : d = 0
      · subst h0
        go_wp2_with (at_builtin; refine wpList_append_sl rfl (.tmp 20) (.tmp 22) 22 rfl w.heap.size 37 (Value.agg #[.int .i64 0, .int .i64 0, .slice none 0 0]) 3 40 Tryd.underlying22 Tryd.info_ev rfl (by decide) _ k cs rfl hO5.out _ 1 [.int .i64 0, .int .i64 t, .slice A' y.length c'] rfl hnew.out (by intro u hu; simp at hu; rcases hu with rfl | rfl | rfl <;> rfl) (k + 1) rfl (by omega) (by decide) hbs.out ?_)
        intro A6 c6 w6 hO6 hC6 _
        have hC7 := Lib.hid ((hC.out.trans hC5.out).then hC6 (fun q hq => .inr (own_lt' hO5.out q (by simpa using hq)).1))
        replace hO6 := Lib.hid hO6
        have hs9 := Lib.hid (hsnoc.out (false, y) rfl)
        clear hC6 hO5 hC5 hnew hsnoc hC
        go_wp2_with fail
        go_roundg (n - (i + 1))
        case measure => omega
        case rel => exact ⟨i + 1, k + 1, A6, c6, _, m ++ [(false, y)], by go_num, by omega, rfl, by omega, rfl, Lib.hid (by simp [hmk.out]), Lib.hid (by rw [hsx.out]; rfl), hO6, hs9, hC7⟩
      · by_cases h1 : d = 1
        · subst h1
          go_wp2_with (at_builtin; refine wpList_append_sl rfl (.tmp 20) (.tmp 22) 22 rfl w.heap.size 37 (Value.agg #[.int .i64 0, .int .i64 0, .slice none 0 0]) 3 40 Tryd.underlying22 Tryd.info_ev rfl (by decide) _ k cs rfl hO5.out _ 1 [.int .i64 1, .int .i64 t, .slice A' y.length c'] rfl hnew.out (by intro u hu; simp at hu; rcases hu with rfl | rfl | rfl <;> rfl) (k + 1) rfl (by omega) (by decide) hbs.out ?_)
          intro A6 c6 w6 hO6 hC6 _
          have hC7 := Lib.hid ((hC.out.trans hC5.out).then hC6 (fun q hq => .inr (own_lt' hO5.out q (by simpa using hq)).1))
          replace hO6 := Lib.hid hO6
          have hs9 := Lib.hid (hsnoc.out (true, y) rfl)
          clear hC6 hO5 hC5 hnew hsnoc hC
          go_wp2_with fail
          go_roundg (n - (i + 1))
          case measure => omega
          case rel => exact ⟨i + 1, k + 1, A6, c6, _, m ++ [(true, y)], by go_num, by omega, rfl, by omega, rfl, Lib.hid (by simp [hmk.out]), Lib.hid (by rw [hsx.out]; rfl), hO6, hs9, hC7⟩
        · have h0b : (d == 0) = false := beq_eq_false_iff_ne.2 h0
          have h1b : (d == 1) = false := beq_eq_false_iff_ne.2 h1
          have hsn : selE (d, y) = none := by unfold selE; rw [if_neg h0, if_neg h1]
          rw [hsn] at hsx
          replace hsn := Lib.hid hsn
          have hO9 := Lib.hid (own_chg hO.out ((Chg.refl [] wr).alloc (.cells #[.int .i64 d, .int .i64 t, .slice A' y.length c'] 37 (0, 0))) (by simp))
          have hC9 := Lib.hid (hC.out.alloc (.cells #[.int .i64 d, .int .i64 t, .slice A' y.length c'] 37 (0, 0)))
          clear hO5 hC5 hnew hsnoc hC hW5 hbs hO
          go_wp2_with fail
          go_roundg (n - (i + 1))
          case measure => omega
          case rel => exact ⟨i + 1, k, A3, c3, cs, m, by go_num, by omega, rfl, by omega, rfl, hmk, Lib.hid (by rw [hsx.out]; simp), hO9, hEm, hC9⟩
    · obtain rfl : i = n := by omega
      have hml : sel l = m := by
        have := hm.out
        rw [List.take_of_length_le (by rw [hn.out]; exact Nat.le_refl _)] at this
        exact this
      have hst : sumTo m m.length ≤ 16777216 := by
        have h1 := sel_tot l
        have h2 := ht.out
        rw [hml] at h1
        unfold sumTo
        rw [List.take_length]
        omega
      have hmg := merge_any wr m A3 k c3 cs hmk.out (by omega) (by rw [← hmk.out]; exact hst) (own_sl hO.out) (hEm.out.chg0 hC.out)
      have hmg2 : Hid (Calls Tryd.prog 54 #[.slice A3 k c3] wr (RightEnd w (merge (sel l)))) := Lib.hid (by rw [hml]; exact hmg.mono (fun e w' ⟨A, c, cells, h1, h2, h3, h4⟩ => ⟨A, c, cells, h1, own_weak h2 hC.out.size, h3.weak hC.out.size, hC.out.trans h4⟩))
      clear hmg hst hS hE hml hm hO hEm hC
      go_wp2_with fail
      refine hmg2.out.mono ?_
      rintro e w2 ⟨A9, c9, cells9, rfl, h2, h3, h4⟩
      replace h2 := Lib.hid h2
      replace h3 := Lib.hid h3
      replace h4 := Lib.hid h4
      clear hmg2
      go_wp2_with fail
      go_ret
      exact ⟨_, _, _, rfl, h2.out, h3.out, h4.out⟩
end Ev_
end Go.Proofs.YtncoedoiakaedaaDoor
