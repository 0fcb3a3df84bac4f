/- Contracts of slices.Clone and slices.Reverse at bytes, and of package tail's Shortest. Conditions: as each states. -/
import Derived.Test.YtncoedoiakaedaaDoorTailZ
import Derived.Test.YtncoedoiakaedaaDoorPGenScriptsx1
set_option linter.unusedVariables false
set_option linter.unusedSimpArgs false
namespace Go.Proofs.YtncoedoiakaedaaDoor
open Go.RowKit Tail PGenScripts YtncoedoiakaedaaDoorW.PrintWords
namespace Tl
open IntWalk
def ns (l : List UInt8) : List Int := l.map fun c => (c.toNat : Int)
@[simp] theorem ns_length (l : List UInt8) : (ns l).length = l.length := by simp [ns]
theorem ns_get {l : List UInt8} {j : Nat} {x : UInt8} (h : l[j]? = some x) : (ns l)[j]? = some (x.toNat : Int) := by simp [ns, h]
theorem Tryd.info_u8 : (Tryd.prog.info? 5).map (fun i => (i.zero, i.size, i.bytes)) = some (some (.int .u8 0), 1, 1) := by kernel_rfl
theorem clone_nil (w : World) :
    Calls Tryd.prog 40 #[.slice none 0 0] w fun e w' => e = .returned (.slice none 0 0) ∧ w = w' := by
  have hs := fun (w : World) => Lib.run_eql_slice_nil (P := Tryd.prog) w 35 5 none 0 0 0 0 Tryd.underlying35
  go_enter Tryd.func40, Tryd.ntmps40
  go_wp2
  go_ret
  exact ⟨rfl, rfl⟩
def CloneEnd (w : World) (xs : List Int) (e : Ending) (w' : World) : Prop :=
  ∃ A c, e = .returned (.slice A xs.length c) ∧ w'.ownsRow w.heap.size 5 1 (.slice A xs.length c) xs.length (cellsOf .u8 xs) ∧ Chg [] w w'
theorem clone_some (w : World) (a : Addr) (n c : Nat) (xs : List Int) (h : Sl w 1 (.slice (some a) n c) n (cellsOf .u8 xs)) (hn : n ≤ 140737488351232) :
    Calls Tryd.prog 40 #[.slice (some a) n c] w (CloneEnd w xs) := by
  obtain ⟨i0, hi, hz0, hz1, hz2⟩ := info_parts Tryd.info_u8
  have hl : xs.length = n := by have := h.len; simpa using this
  obtain ⟨A', c', e, _, _, _, _, hr⟩ := h
  obtain ⟨rfl, rfl⟩ : some a = A' ∧ c = c' := by simpa using e
  have hr2 : ∀ j u, (cellsOf .u8 xs)[j]? = some u → w.cell? (a.add j) = some u := by
    intro j u hu
    obtain ⟨ad, e, hr⟩ := hr (by have := (List.getElem?_eq_some_iff.1 hu).1; omega)
    simp only [Option.some.injEq] at e; subst e
    exact hr j u hu
  clear hr
  have hs := fun (w : World) => Lib.run_eql_slice_nil (P := Tryd.prog) w 35 5 (some a) n c 0 0 Tryd.underlying35
  have hown : (w.alloc (.cells #[] 5)).ownsRow w.heap.size 5 1 (.slice (some ⟨w.heap.size, 0, none⟩) 0 0) 0 [] := World.ownsRow_made w #[] 0 (Nat.le_refl _) (by simp) (by simp)
  go_enter Tryd.func40, Tryd.ntmps40
  go_wp2_with (at_builtin; refine wpList_append_own _ rfl (.tmp 5) (.tmp 6) 35 rfl w.heap.size 5 i0 (.int .u8 0) 1 1 Tryd.underlying35 hi hz0 hz1 hz2 rfl (by decide) _ 0 [] rfl hown a n c (cellsOf .u8 xs) rfl ?c0 ?c1 ?c2 ?c3 ?c4 ?c5 ?_)
  case c0 => simpa using hl
  case c1 => intro j u hu; exact (Chg.refl [] w).alloc _ |>.cell (hr2 j u hu) (by simp)
  case c2 => exact cellsOf_one
  case c3 => unfold maxLen; omega
  case c4 => omega
  case c5 => simp
  intro v' w' hown' hgrow _
  go_wp2
  go_ret
  obtain ⟨A', c', rfl⟩ := own_form hown'
  subst hl
  exact ⟨A', c', rfl, by simpa using hown', ((Chg.refl [] w).alloc _).grown hgrow (fun k hk => by simp [Value.ownBlock] at hk; right; omega)⟩
theorem clone_any (w : World) (v : Value) (xs : List Int) (h : Sl w 1 v xs.length (cellsOf .u8 xs)) (hn : xs.length ≤ 140737488351232) :
    Calls Tryd.prog 40 #[v] w (CloneEnd w xs) := by
  cases hb : v.ownBlock with
  | none =>
    obtain ⟨rfl, h1, h2⟩ := h.nil_of hb
    obtain rfl : xs = [] := List.eq_nil_of_length_eq_zero h1
    refine (clone_nil w).mono ?_
    rintro e w' ⟨rfl, rfl⟩
    exact ⟨_, _, rfl, World.ownsRow_nil _ _ _ _, Chg.refl _ _⟩
  | some k =>
    obtain ⟨A, c, rfl, _⟩ := id h
    cases A with
    | none => simp [Value.ownBlock] at hb
    | some a => exact clone_some w a _ c xs h hn
theorem rev_l0 {o : List Int} {n : Nat} (hn : o.length = n) (hs : n ≤ 16777216) : ∀ (m : Nat) (x : List Int) (i : Nat), x.length = n → 2 * i ≤ n → n - 2 * i ≤ m → (∀ q, q < n → x[q]? = if q < i ∨ n - 1 - i < q then o[n - 1 - q]? else o[q]?) →
    slices_Reverse_byte_byte.l0 (m + 1) x (i : Int) ((n : Int) - 1 - (i : Int)) = some o.reverse := by
  intro m
  induction m with
  | zero =>
    intro x i hx hi hm hq
    unfold slices_Reverse_byte_byte.l0
    rw [if_neg (by omega)]
    congr 1
    apply List.ext_getElem?
    intro q
    by_cases hqn : q < n
    · rw [hq q hqn, List.getElem?_reverse (by omega), hn]
      split
      · rfl
      · congr 1; omega
    · rw [List.getElem?_eq_none (by omega), List.getElem?_eq_none (by simp; omega)]
  | succ m ih =>
    intro x i hx hi hm hq
    unfold slices_Reverse_byte_byte.l0
    by_cases hlt : (i : Int) < (n : Int) - 1 - (i : Int)
    · rw [if_pos hlt, if_pos (by omega), if_pos (by omega), if_pos (by omega), if_pos (by omega)]
      have e1 : wrap64 ((i : Int) + 1) = ((i + 1 : Nat) : Int) := by rw [wrap64_in _ (by omega)]; omega
      have e2 : wrap64 ((n : Int) - 1 - (i : Int) - 1) = (n : Int) - 1 - ((i + 1 : Nat) : Int) := by rw [wrap64_in _ (by omega)]; omega
      rw [e1, e2]
      have hj : ((n : Int) - 1 - (i : Int)).toNat = n - 1 - i := by omega
      have hi' : ((i : Nat) : Int).toNat = i := by omega
      rw [hj, hi']
      have g1 := hq i (by omega)
      have g2 := hq (n - 1 - i) (by omega)
      rw [if_neg (by omega)] at g1 g2
      have r1 : rd x (i : Int) = o[i]'(by omega) := by unfold rd; rw [hi', List.getD_eq_getElem?_getD, g1, List.getElem?_eq_getElem (by omega)]; rfl
      have r2 : rd x ((n : Int) - 1 - (i : Int)) = o[n - 1 - i]'(by omega) := by unfold rd; rw [hj, List.getD_eq_getElem?_getD, g2, List.getElem?_eq_getElem (by omega)]; rfl
      rw [r1, r2]
      refine ih _ (i + 1) (by simp [hx]) (by omega) (by omega) ?_
      intro q hqn
      rw [List.getElem?_set, List.getElem?_set]
      by_cases h1 : n - 1 - i = q
      · rw [if_pos h1, if_pos (by simp; omega), if_pos (by omega), ← h1, List.getElem?_eq_getElem (by omega)]
        congr 2; omega
      · rw [if_neg h1]
        by_cases h2 : i = q
        · rw [if_pos h2, if_pos (by omega), if_pos (by omega), ← h2, List.getElem?_eq_getElem (by omega)]
        · rw [if_neg h2, hq q hqn]
          by_cases h3 : q < i ∨ n - 1 - i < q
          · rw [if_pos h3, if_pos (by omega)]
          · rw [if_neg h3, if_neg (by omega)]
    · rw [if_neg hlt]
      congr 1
      apply List.ext_getElem?
      intro q
      by_cases hqn : q < n
      · rw [hq q hqn, List.getElem?_reverse (by omega), hn]
        split
        · rfl
        · congr 1; omega
      · rw [List.getElem?_eq_none (by omega), List.getElem?_eq_none (by simp; omega)]
theorem rev_f {o : List Int} (hs : o.length ≤ 16777216) : slices_Reverse_byte_byte.f (o.length + 1) o = some o.reverse := by
  unfold slices_Reverse_byte_byte.f
  rw [wrap64_in _ (by omega)]
  have h := rev_l0 (o := o) rfl hs o.length o 0 rfl (by omega) (by omega) (by intro q hq; rw [if_neg (by omega)])
  rw [show ((0 : Nat) : Int) = 0 from rfl, Int.sub_zero] at h
  exact h
theorem kdR_own {k : IntKind} {e : Nat} {w : World} {base : Nat} {ok : Nat → Prop} {v : Value} {xs : List Int} (hok : ∀ k, v.ownBlock = some k → ok k) : (Kd.int k).R e w base ok v xs ↔ w.ownsRow base e 1 v xs.length (cellsOf k xs) := by
  have hrep : ∀ inner, Reps (fun (x : Int) (cs : List Value) => cs = [Value.int k x]) 1 xs inner ↔ inner = cellsOf k xs := by
    intro inner
    constructor
    · intro ⟨h1, h2⟩
      apply List.ext_getElem?
      intro j
      by_cases hj : j < xs.length
      · have h3 := h2 j _ (List.getElem?_eq_getElem hj)
        rw [Nat.mul_one] at h3
        rw [cellsOf_get hj]
        have h4 : ((inner.drop j).take 1)[0]? = some (Value.int k xs[j]) := by rw [h3]; rfl
        rw [List.getElem?_take_of_lt (by omega), List.getElem?_drop] at h4
        exact h4
      · rw [List.getElem?_eq_none (by omega), List.getElem?_eq_none (by simp; omega)]
    · rintro rfl
      refine ⟨by simp, ?_⟩
      intro j p hp
      obtain ⟨hj, hp⟩ := List.getElem?_eq_some_iff.1 hp
      rw [Nat.mul_one]
      apply List.ext_getElem?
      intro q
      by_cases hq : q = 0
      · subst hq
        rw [List.getElem?_take_of_lt (by omega), List.getElem?_drop, Nat.add_zero, cellsOf_get hj, hp]; rfl
      · rw [List.getElem?_eq_none (by simp; omega), List.getElem?_eq_none (by simp; omega)]
  constructor
  · rintro ⟨-, inner, h1, h2⟩
    rw [(hrep inner).1 h2] at h1
    exact h1
  · intro h
    exact ⟨hok, _, h, (hrep _).2 rfl⟩
theorem rev_any (w0 w : World) (v : Value) (o : List Int) (hs : o.length ≤ 16777216) (hC : Chg [] w0 w) (h : w.ownsRow w0.heap.size 5 1 v o.length (cellsOf .u8 o)) :
    Calls Tryd.prog 55 #[v] w fun e w' => e = .returned (.tuple #[]) ∧ w'.ownsRow w0.heap.size 5 1 v o.length (cellsOf .u8 o.reverse) ∧ Chg [] w0 w' := by
  refine (slices_Reverse_byte_byte.calls (o.length + 1) (fun _ => True) v o o.reverse w0 w hC.below ((kdR_own (fun _ _ => trivial)).2 h) (rev_f hs)).mono ?_
  rintro e w' ⟨rfl, h1, h2, -⟩
  have h3 := (kdR_own (fun _ _ => .inl trivial)).1 h1
  rw [List.length_reverse] at h3
  exact ⟨rfl, h3, Chg.of_below h2⟩
/-- The longest, up to a place. -/
theorem maxTo_succ (f : Nat → Nat) (k : Nat) : maxTo f (k + 1) = max (maxTo f k) (f k) := rfl
theorem zl_le (b : List UInt8) (i : Nat) : zl b i ≤ b.length := by
  unfold zl
  split
  · exact Nat.zero_le _
  · exact lcp_le_left _ _
theorem maxTo_le {f : Nat → Nat} {c : Nat} (h : ∀ i, f i ≤ c) : ∀ k, maxTo f k ≤ c
  | 0 => Nat.zero_le _
  | k + 1 => by rw [maxTo_succ]; exact Nat.max_le.2 ⟨maxTo_le h k, h k⟩
set_option maxRecDepth 100000 in
set_option maxHeartbeats 8000000 in
theorem shortest_any (w : World) (t : List UInt8) (A : Option Addr) (n c : Nat) (hn : t.length = n) (hl : n ≤ 16777216) (hS : Sl w 1 (.slice A n c) n (cellsOf .u8 (ns t))) :
    Calls Tryd.prog 39 #[.slice A n c] w fun e w' => e = .returned (.int .i64 (shortest t)) ∧ Chg [] w w' := by
  have hcl := Lib.hid (clone_any w (.slice A n c) (ns t) (by rw [ns_length, hn]; exact hS) (by rw [ns_length]; omega))
  by_cases h0 : n = 0
  · subst h0
    have ht : t = [] := List.eq_nil_of_length_eq_zero hn
    subst ht
    clear hcl hS
    rw [show shortest [] = 0 by unfold shortest; rw [if_pos rfl]]
    go_enter Tryd.func39, Tryd.ntmps39
    go_wp2_with fail
    go_ret
    exact ⟨rfl, Chg.refl _ _⟩
  have ht : t ≠ [] := by rintro rfl; exact h0 hn.symm
  have hres : shortest t = longest t.reverse + 1 := by unfold shortest; rw [if_neg ht]
  have hn0 : ¬ (n : Int) = 0 := by omega
  rw [hres]
  obtain ⟨b, hb⟩ : ∃ b, t.reverse = b := ⟨_, rfl⟩
  have hbn : b.length = n := by rw [← hb, List.length_reverse, hn]
  have hlo : longest b = maxTo (zl b) n := by unfold longest; rw [hbn]
  have hmx : ∀ k, maxTo (zl b) k ≤ n := maxTo_le (fun i => by rw [← hbn]; exact zl_le b i)
  rw [hb, hlo]
  have hrv := Lib.hid (fun (W : World) v (hC : Chg [] w W) (h : W.ownsRow w.heap.size 5 1 v n (cellsOf .u8 (ns t))) => rev_any w W v (ns t) (by rw [ns_length]; omega) hC (by rw [ns_length, hn]; exact h))
  have hov := Lib.hid (fun (W : World) A c (h : W.ownsRow w.heap.size 5 1 (.slice A n c) n (cellsOf .u8 (ns t).reverse)) => (show Calls Tryd.prog 56 #[.slice A n c] W fun e w' => ∃ g, e = .returned (.slice (some ⟨g, 0, none⟩) n n) ∧ W.heap.size ≤ g ∧ w'.ownsRow W.heap.size 3 1 (.slice (some ⟨g, 0, none⟩) n n) n (zrow b n n 0) ∧ Chg [] W w' by
    have h9 := overlaps_any W b A c (by omega) ?_
    · rw [hbn] at h9; exact h9
    intro j x hj
    have hrv : (ns t).reverse = ns b := by rw [← hb]; unfold ns; rw [List.map_reverse]
    rw [hrv] at h
    rcases id h.2 with ⟨h1, h2⟩ | ⟨g, cap, cur, h1, h2, h3, h4⟩
    · exact absurd h2 h0
    · cases h1
      refine ⟨g, 0, rfl, ?_⟩
      rw [Nat.zero_add]
      exact (own_cell h (show (cellsOf .u8 (ns b))[j]? = some (.int .u8 x.toNat) by unfold cellsOf; rw [List.getElem?_map, ns_get hj]; rfl)).1))
  replace hn := Lib.hid hn
  replace hb := Lib.hid hb
  replace hbn := Lib.hid hbn
  replace hlo := Lib.hid hlo
  replace hmx := Lib.hid hmx
  clear hS hres ht
  go_enter Tryd.func39, Tryd.ntmps39
  go_wp2_with (go_at_call 40; refine hcl.out.mono ?_; rintro e w1 ⟨A1, c1, rfl, hO1, hC1⟩; rw [ns_length, hn.out] at hO1 ⊢; replace hO1 := Lib.hid hO1; replace hC1 := Lib.hid hC1)
  refine (hrv.out _ _ hC1.out hO1.out).mono ?_
  rintro e w2 ⟨rfl, hO2, hC2⟩
  rw [ns_length, hn.out] at hO2
  replace hO2 := Lib.hid hO2
  replace hC2 := Lib.hid hC2
  clear hO1 hC1 hcl hrv
  go_wp2_with fail
  refine (hov.out _ _ _ hO2.out).mono ?_
  rintro e w3 ⟨g, rfl, hg, hO3, hC3⟩
  have hcell := fun k (hk : k < n) => (own_cell hO3 (zrow_get (t := b) (i := n) (c := 0) hk)).1
  have hC := Lib.hid (hC2.out.trans hC3)
  clear hO2 hC2 hov hO3 hC3
  go_wp2_with fail
  go_loopg [4, 6, 17] n (fun gk v4 v6 v17 wr => ∃ i m : Nat, v17 = .int .i64 i ∧ v4 = .int .i64 m ∧ i ≤ n ∧ gk = n - i ∧ maxTo (zl b) i = m ∧ wr = w3)
  case atStart => exact ⟨0, 0, rfl, rfl, by omega, by omega, rfl, rfl⟩
  case round =>
    obtain ⟨i, m, rfl, rfl, hi, rfl, hm, rfl⟩ := hrel
    have hmn : m ≤ n := by rw [← hm]; exact hmx.out i
    by_cases hlt : i < n
    · have x1 := hcell i hlt
      rw [if_pos hlt] at x1
      have hnx : Hid (maxTo (zl b) (i + 1) = max m (zl b i)) := Lib.hid (by rw [maxTo_succ, hm])
      have hzn : zl b i ≤ n := by rw [← hbn.out]; exact zl_le b i
      clear hcell
      obtain ⟨q, hq⟩ : ∃ q, zl b i = q := ⟨_, rfl⟩
      rw [hq] at x1 hzn hnx
      clear hq hm
      rcases Nat.lt_or_ge m q with h | h
      · have hmq : ((m : Nat) : Int) < (q : Int) := by omega
        rw [Nat.max_eq_right (by omega)] at hnx
        go_wp2_with fail
        go_roundg (n - (i + 1))
        case measure => omega
        case rel => exact ⟨i + 1, q, by simp, rfl, by omega, rfl, hnx.out, rfl⟩
      · have hmq : ¬ ((m : Nat) : Int) < (q : Int) := by omega
        rw [Nat.max_eq_left (by omega)] at hnx
        go_wp2_with fail
        go_roundg (n - (i + 1))
        case measure => omega
        case rel => exact ⟨i + 1, m, by simp, rfl, by omega, rfl, hnx.out, rfl⟩
    · obtain rfl : i = n := by omega
      clear hcell
      go_wp2_with fail
      go_ret
      exact ⟨by rw [hm]; rfl, hC.out⟩
end Tl
end Go.Proofs.YtncoedoiakaedaaDoor
