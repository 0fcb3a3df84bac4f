/- Contract of the reference of layer 13: Like. Conditions: as it states. -/
import Derived.Test.YtjocfajnabkhaaaRefThings
import Derived.Test.YtjocfajnabkhaaaLMore
set_option linter.unusedVariables false
set_option linter.unusedSimpArgs false
namespace Go.Proofs.Ytjocfajnabkhaaa
open Go.RowKit Glob
theorem like_snoc_any (a : List Th) (T : List UInt8) : Like (a ++ [.any]) T = true ↔ ∃ d, d ≤ T.length ∧ Like a (T.take d) = true := by
  rw [like_append]
  constructor
  · rintro ⟨d, hd, h1, h2⟩; exact ⟨d, hd, h1⟩
  · rintro ⟨d, hd, h1⟩; exact ⟨d, hd, h1, like_all _⟩
theorem like_single {x : Th} (hx : x.isAny = false) (T : List UInt8) : Like [x] T = true ↔ ∃ c, T = [c] ∧ x.has c = true := by
  match T with
  | [] => rw [like_cons_nil hx]; simp
  | [c] => rw [like_cons_cons hx, like_nil_nil]; simp
  | c :: d :: r => rw [like_cons_cons hx, like_nil_cons]; simp
theorem like_snoc_byte {x : Th} (hx : x.isAny = false) (a : List Th) (T : List UInt8) (i : Nat) (c : UInt8) (hc : T[i]? = some c) : Like (a ++ [x]) (T.take (i + 1)) = (Like a (T.take i) && x.has c) := by
  have hi : i < T.length := (List.getElem?_eq_some_iff.1 hc).1
  have e : T.take (i + 1) = T.take i ++ [c] := by rw [List.take_add_one, hc]; rfl
  rw [e, Bool.eq_iff_iff, like_append, Bool.and_eq_true]
  have hl : (T.take i).length = i := by simp; omega
  constructor
  · rintro ⟨d, hd, h1, h2⟩
    obtain ⟨c', h3, h4⟩ := (like_single hx _).1 h2
    have h5 := congrArg List.length h3
    simp only [List.length_drop, List.length_append, List.length_cons, List.length_nil, hl] at h5 hd
    obtain rfl : d = i := by omega
    rw [List.drop_append_of_le_length (by omega), List.drop_eq_nil_of_le (by omega), List.nil_append] at h3
    rw [List.take_append_of_le_length (by omega), List.take_of_length_le (by omega)] at h1
    cases h3
    exact ⟨h1, h4⟩
  · rintro ⟨h1, h2⟩
    refine ⟨i, by simp; omega, ?_, ?_⟩
    · rw [List.take_append_of_le_length (by omega), List.take_of_length_le (by omega)]; exact h1
    · rw [List.drop_append_of_le_length (by omega), List.drop_eq_nil_of_le (by omega), List.nil_append]; exact (like_single hx _).2 ⟨c, rfl, h2⟩
theorem like_snoc_nil {x : Th} (hx : x.isAny = false) (a : List Th) : Like (a ++ [x]) [] = false := by
  rw [Bool.eq_false_iff]; intro h
  obtain ⟨d, hd, h1, h2⟩ := (like_append a [x] []).1 h
  obtain ⟨c, h3, _⟩ := (like_single hx _).1 h2
  simp at h3
/-- A row of bools. -/
def RowB (w : World) (g m : Nat) (f : Nat → Bool) : Prop := ∃ cs, w.heap[g]? = some (.cells cs 4 (0, 0)) ∧ cs.size = m ∧ ∀ i, i < m → cs[i]? = some (.bool (f i))
theorem RowB.cell {w : World} {g m : Nat} {f : Nat → Bool} (h : RowB w g m f) {i : Nat} (hi : i < m) : w.cell? ⟨g, i, none⟩ = some (.bool (f i)) := by
  obtain ⟨cs, h1, h2, h3⟩ := h; simp [World.cell?, h1, h3 i hi]
theorem RowB.frozen {w : World} {g m : Nat} {f : Nat → Bool} (h : RowB w g m f) (i : Nat) : w.frozen? ⟨g, i, none⟩ = false := by
  obtain ⟨cs, h1, h2, h3⟩ := h; simp [World.frozen?, h1]
theorem RowB.put {w : World} {g m : Nat} {f f' : Nat → Bool} (h : RowB w g m f) (i : Nat) (b : Bool) (hf : ∀ j, j < m → f' j = if j = i then b else f j) : RowB (w.setCell ⟨g, i, none⟩ (.bool b)) g m f' := by
  obtain ⟨cs, h1, h2, h3⟩ := h
  refine ⟨_, blk_set h1 _ _, by simpa using h2, fun j hj => ?_⟩
  rw [Array.getElem?_setIfInBounds, hf j hj]
  by_cases e : i = j
  · subst e; rw [if_pos rfl, if_pos (by omega), if_pos rfl]
  · rw [if_neg e, if_neg (fun e' => e e'.symm), h3 j hj]
theorem RowB.chg {S : List Nat} {w w' : World} {g m : Nat} {f : Nat → Bool} (h : RowB w g m f) (hc : Chg S w w') (hg : g ∉ S) : RowB w' g m f := by
  obtain ⟨cs, h1, h2⟩ := h; exact ⟨cs, hc.heap h1 hg, h2⟩
theorem RowB.congr {w : World} {g m : Nat} {f f' : Nat → Bool} (h : RowB w g m f) (e : ∀ i, i < m → f i = f' i) : RowB w g m f' := by
  obtain ⟨cs, h1, h2, h3⟩ := h; exact ⟨cs, h1, h2, fun i hi => by rw [h3 i hi, e i hi]⟩
theorem RowB.lt {w : World} {g m : Nat} {f : Nat → Bool} (h : RowB w g m f) : g < w.heap.size := by
  obtain ⟨cs, h1, _⟩ := h; exact lt_heap h1
theorem rows_get (ths : List Th) : ∀ (k j : Nat) (x : Th), ths[k]? = some x → j < 257 → (rows ths)[k * 257 + j]? = (thRow x)[j]? := by
  induction ths with
  | nil => intro k j x h; simp at h
  | cons y r ih =>
    intro k j x h hj
    have hl : (thRow y).length = 257 := rowOf_length _ _
    have e : rows (y :: r) = thRow y ++ rows r := by simp [rows]
    rw [e]
    cases k with
    | zero => simp at h; subst h; rw [List.getElem?_append_left (by omega)]; simp
    | succ k =>
      simp at h
      rw [List.getElem?_append_right (by rw [hl]; omega), hl, show (k + 1) * 257 + j - 257 = k * 257 + j by omega]
      exact ih k j x h hj
/-- The things, as the walk reads them. -/
def ThsAt (w : World) (A : Option Addr) (ths : List Th) : Prop :=
  ∀ k x, ths[k]? = some x → ∃ b o, A = some ⟨b, o, none⟩ ∧ w.cell? ⟨b, o + k * 257, none⟩ = some (.bool x.isAny) ∧ ∀ c : UInt8, w.cell? ⟨b, o + k * 257 + (1 + c.toNat), none⟩ = some (.bool (x.has c))
theorem ThsAt.of_sl {w : World} {A : Option Addr} {n c : Nat} {ths : List Th} (h : Sl w 257 (.slice A n c) n (rows ths)) : ThsAt w A ths := by
  intro k x hx
  obtain ⟨A0, c0, e0, h0, h1, h2, h3, h4⟩ := h
  obtain ⟨rfl, rfl⟩ : A0 = A ∧ c0 = c := by simp at e0; exact ⟨e0.1.symm, e0.2.symm⟩
  have hg := rows_get ths k 0 x hx (by omega)
  have hlen : 0 < (rows ths).length := by
    rw [thRow, rowOf_zero] at hg
    have := (List.getElem?_eq_some_iff.1 hg).1; omega
  obtain ⟨ad, rfl, hr⟩ := h4 hlen
  have hspot : ad.spot = none := by
    have := hr 0 _ (List.getElem?_eq_getElem hlen)
    exact World.cell?_spot (a := ad) (by simpa [Addr.add] using this)
  obtain ⟨b, off, spot⟩ := ad
  simp only at hspot
  subst hspot
  have ha : ∀ j, (⟨b, off, none⟩ : Addr).add j = ⟨b, off + j, none⟩ := fun j => by unfold Addr.add; split <;> simp_all
  refine ⟨b, off, rfl, ?_, fun c => ?_⟩
  · have := hr (k * 257) _ (by rw [← Nat.add_zero (k * 257), hg]; exact rowOf_zero _ _)
    rwa [ha] at this
  · have hc := c.toNat_lt
    have := hr (k * 257 + (1 + c.toNat)) _ (by rw [rows_get ths k _ x hx (by omega)]; exact rowOf_succ _ _ c)
    rw [ha, ← Nat.add_assoc] at this
    exact this
theorem ThsAt.chg {w w' : World} {A : Option Addr} {ths : List Th} (h : ThsAt w A ths) (hc : Chg [] w w') : ThsAt w' A ths := by
  intro k x hx
  obtain ⟨b, o, h1, h2, h3⟩ := h k x hx
  exact ⟨b, o, h1, hc.cell h2 (by simp), fun c => hc.cell (h3 c) (by simp)⟩
theorem Try.info_bool : (Try.prog.info? 4).map (fun i => (i.zero, i.size, i.bytes)) = some (some (.bool false), 1, 1) := by kernel_rfl
theorem make_bools (N : Nat) (hN : N ≤ 1000001) : ∃ Z : Array Value, (∀ w : World, (Instr.makeSlice 53 (.int .i64 (N : Int)) (.int .i64 (N : Int))).run Try.prog w = .ok (.slice (some ⟨w.heap.size, 0, none⟩) N N) (w.alloc (.cells Z 4))) ∧
    (∀ w : World, RowB (w.alloc (.cells Z 4)) w.heap.size N (fun _ => false)) ∧ ∀ w : World, RowB (w.alloc (.cells (Z.setIfInBounds 0 (.bool true)) 4)) w.heap.size N (fun i => decide (i = 0)) := by
  obtain ⟨i0, hi0, hz0, hz1, hz2⟩ := info_parts Try.info_bool
  refine ⟨madeCells (Value.cells (.bool false)) N, fun w => ?_, fun w => ⟨_, blk_new _ _, size_madeCells _ _, fun i hi => ?_⟩, fun w => ⟨_, blk_new _ _, by rw [Array.size_setIfInBounds]; exact size_madeCells _ _, fun i hi => ?_⟩⟩
  · have h := run_make (P := Try.prog) w 53 4 i0 (.bool false) Try.underlying53 hi0 hz0 .i64 .i64 N N (by omega) (Int.le_refl _) (by rw [hz2]; omega) (by omega)
    rw [hz1, Nat.mul_one, Int.toNat_natCast] at h
    exact h
  · simp [madeCells, Value.cells, hi, Nat.mod_one]
  · rw [Array.getElem?_setIfInBounds]
    by_cases e : i = 0
    · subst e; simp [size_madeCells, hi]
    · rw [if_neg (fun e' => e e'.symm)]; simp [madeCells, Value.cells, hi, Nat.mod_one, e]
/-- What the reference's row says behind `k` things. -/
def dp (ths : List Th) (T : List UInt8) (k i : Nat) : Bool := Like (ths.take k) (T.take i)
theorem dp_zero (ths : List Th) (T : List UInt8) (i : Nat) (hi : i ≤ T.length) : dp ths T 0 i = decide (i = 0) := by
  unfold dp
  rw [List.take_zero]
  cases i with
  | zero => simp [like_nil_nil]
  | succ i =>
    cases T with
    | nil => simp at hi
    | cons c T => simp [like_nil_cons]
theorem take_snoc {ths : List Th} {k : Nat} {x : Th} (h : ths[k]? = some x) : ths.take (k + 1) = ths.take k ++ [x] := by rw [List.take_add_one, h]; rfl
theorem dp_any {ths : List Th} {T : List UInt8} {k i : Nat} {x : Th} (h : ths[k]? = some x) (hx : x.isAny = true) : dp ths T (k + 1) i = true ↔ ∃ j, j < i + 1 ∧ dp ths T k j = true := by
  have e : x = .any := by cases x <;> simp [Th.isAny] at hx; rfl
  unfold dp
  rw [take_snoc h, e, like_snoc_any]
  constructor
  · rintro ⟨d, hd, h1⟩
    simp only [List.length_take] at hd
    rw [List.take_take] at h1
    exact ⟨min d i, by omega, h1⟩
  · rintro ⟨j, hj, h1⟩
    by_cases hT : j ≤ T.length
    · exact ⟨j, by simp; omega, by rw [List.take_take, Nat.min_eq_left (by omega)]; exact h1⟩
    · rw [List.take_of_length_le (show T.length ≤ j by omega)] at h1
      rw [List.take_of_length_le (l := T) (show T.length ≤ i by omega)]
      exact ⟨T.length, Nat.le_refl _, by rw [List.take_of_length_le (Nat.le_refl _)]; exact h1⟩
theorem dp_byte {ths : List Th} {T : List UInt8} {k i : Nat} {x : Th} {c : UInt8} (h : ths[k]? = some x) (hx : x.isAny = false) (hc : T[i]? = some c) : dp ths T (k + 1) (i + 1) = (dp ths T k i && x.has c) := by
  unfold dp
  rw [take_snoc h, like_snoc_byte hx _ _ _ c hc]
theorem dp_first {ths : List Th} {T : List UInt8} {k : Nat} {x : Th} (h : ths[k]? = some x) (hx : x.isAny = false) : dp ths T (k + 1) 0 = false := by
  unfold dp
  rw [take_snoc h, List.take_zero, like_snoc_nil hx]
set_option maxRecDepth 100000 in
set_option maxHeartbeats 4000000 in
theorem like_ref (t : ByteArray) (ht : t.size ≤ 1000000) (A : Option Addr) (n c : Nat) (ths : List Th) (hn : ths.length = n) (hn2 : n ≤ 1000000) (w : World) (h : ThsAt w A ths) :
    Calls Try.prog 17 #[.slice A n c, .string t] w fun e w' => e = .returned (.bool (Like ths t.data.toList)) ∧ Chg [] w w' := by
  obtain ⟨T, hT⟩ : ∃ T, T = t.data.toList := ⟨_, rfl⟩
  have hTl : T.length = t.size := by rw [hT, Array.length_toList]; rfl
  have hby : ∀ i (h : i < t.size), T[i]? = some (t[i]'h) := fun i h => by rw [hT]; exact byte_at t i h
  rw [← hT]
  replace hT := Lib.hid hT
  replace hTl := Lib.hid hTl
  replace hby := Lib.hid hby
  obtain ⟨Z, hmk, hZ, hZ0⟩ := make_bools (t.size + 1) (by omega)
  replace hZ := Lib.hid hZ
  replace hZ0 := Lib.hid hZ0
  have hmk' : ∀ w : World, (Instr.makeSlice 53 (.int .i64 ((t.size : Int) + 1)) (.int .i64 ((t.size : Int) + 1))).run Try.prog w = .ok (.slice (some ⟨w.heap.size, 0, none⟩) (t.size + 1) (t.size + 1)) (w.alloc (.cells Z 4)) := hmk
  clear hmk
  have c0 := (hZ.out w).cell (i := 0) (by omega)
  have f0 := (hZ.out w).frozen 0
  go_enter Try.func17, Try.ntmps17
  go_wp2_with fail
  go_loopw [5, 6] (fun v i wr => ∃ (k g : Nat), k ≤ n ∧ i = .int .i64 k ∧ v = .slice (some ⟨g, 0, none⟩) (t.size + 1) (t.size + 1) ∧ RowB wr g (t.size + 1) (dp ths T k) ∧ Chg [] w wr) (fun _ i _ => n - (intOf i).toNat)
  case atStart =>
    refine ⟨0, w.heap.size, by omega, rfl, rfl, (hZ0.out w).congr (fun j hj => ?_), (Chg.refl [] w).alloc _⟩
    rw [dp_zero _ _ _ (by rw [hTl.out]; omega)]
  case round =>
    obtain ⟨k, g, hk, rfl, rfl, hR, hC⟩ := hrel
    by_cases hlt : k < n
    · obtain ⟨x, hx⟩ : ∃ x, ths[k]? = some x := ⟨_, List.getElem?_eq_getElem (by omega)⟩
      obtain ⟨b, o, rfl, hAny, hOne⟩ := h k x hx
      have hgl := hR.lt
      have hR2 := hR.chg ((Chg.refl [] wr).alloc (.cells Z 4)) (by simp)
      have hN2 := hZ.out wr
      have hC2 := hC.alloc (.cells Z 4)
      have hCs := Lib.hid hC.size
      clear hR hC c0 f0
      replace hR2 := Lib.hid hR2
      replace hN2 := Lib.hid hN2
      replace hC2 := Lib.hid hC2
      replace hgl := Lib.hid hgl
      replace hAny := Lib.hid hAny
      replace hOne := Lib.hid hOne
      obtain ⟨g2, hg2⟩ : ∃ g2, wr.heap.size = g2 := ⟨_, rfl⟩
      obtain ⟨w0, hw0⟩ : ∃ w0, wr.alloc (.cells Z 4) = w0 := ⟨_, rfl⟩
      rw [hw0] at hR2 hN2 hC2
      rw [hg2] at hN2 hgl
      have hg2s : Hid (w.heap.size ≤ g2) := by rw [← hg2]; exact hCs.out
      go_wp2_with fail
      go_loopw [8, 9] (fun sv i wx => ∃ (j : Nat) (sm : Bool), j ≤ t.size + 1 ∧ i = .int .i64 j ∧ sv = .bool sm ∧ Hid (x.isAny = true → (sm = true ↔ ∃ d, d < j ∧ dp ths T k d = true)) ∧ RowB wx g (t.size + 1) (dp ths T k) ∧ RowB wx g2 (t.size + 1) (fun d => decide (d < j) && dp ths T (k + 1) d) ∧ Chg [] w wx) (fun _ i _ => t.size + 1 - (intOf i).toNat)
      case atStart => exact ⟨0, false, by omega, rfl, rfl, (show _ → _ from fun _ => by simp), hR2.out, hN2.out.congr (fun i hi => by simp), hC2.out⟩
      case round =>
        obtain ⟨j, sm, hj, rfl, rfl, hsm, hR, hN, hC⟩ := hrel
        by_cases hjl : j ≤ t.size
        · have cA := hC.cell hAny.out (by simp)
          have cN := hN.cell (i := j) (by omega)
          have fN := hN.frozen j
          have hput : ∀ b, dp ths T (k + 1) j = b → RowB (wr.setCell ⟨g2, j, none⟩ (.bool b)) g2 (t.size + 1) (fun d => decide (d < j + 1) && dp ths T (k + 1) d) := fun b hb => hN.put j b (fun d hd => by
            by_cases e : d = j
            · subst e; rw [if_pos rfl, ← hb]; simp
            · rw [if_neg e]
              by_cases e2 : d < j
              · simp [e2, show d < j + 1 by omega]
              · simp [e2, show ¬ d < j + 1 by omega])
          have hstay : dp ths T (k + 1) j = false → RowB wr g2 (t.size + 1) (fun d => decide (d < j + 1) && dp ths T (k + 1) d) := fun hb => hN.congr (fun d hd => by
            by_cases e : d = j
            · subst e; rw [hb]; simp
            · by_cases e2 : d < j
              · simp [e2, show d < j + 1 by omega]
              · simp [e2, show ¬ d < j + 1 by omega])
          have hRp : ∀ b, RowB (wr.setCell ⟨g2, j, none⟩ (.bool b)) g (t.size + 1) (dp ths T k) := fun b => hR.chg ((Chg.refl [g2] wr).setCell (.inl (by simp)) _) (by have := hgl.out; simp; omega)
          have hCp : ∀ b, Chg [] w (wr.setCell ⟨g2, j, none⟩ (.bool b)) := fun b => hC.setCell (.inr (by have := hg2s.out; exact this)) _
          replace hput := Lib.hid hput
          replace hRp := Lib.hid hRp
          replace hCp := Lib.hid hCp
          have hor : x.isAny = true ∨ x.isAny = false := by cases x.isAny <;> simp
          rcases hor with hxa | hxa
          case inl =>
            rw [hxa] at cA
            have hiff := dp_any (T := T) (i := j) hx hxa
            have hsm1 := hsm.out hxa
            replace hxa := Lib.hid hxa
            cases sm with
            | true =>
              have hd : dp ths T (k + 1) j = true := hiff.2 (by obtain ⟨d, h1, h2⟩ := hsm1.1 rfl; exact ⟨d, by omega, h2⟩)
              have hs' : Hid (x.isAny = true → (true = true ↔ ∃ d, d < j + 1 ∧ dp ths T k d = true)) := fun _ => ⟨fun _ => hiff.1 hd, fun _ => rfl⟩
              have hN' := Lib.hid (hput.out true hd)
              clear hstay hN hR hsm hsm1 hiff hd hC
              go_wp2_with fail
              go_roundw
              case rel => exact ⟨j + 1, true, by omega, by go_num, rfl, hs', hRp.out _, hN'.out, hCp.out _⟩
              case measure => simp [intOf]; omega
            | false =>
              have cR := hR.cell (i := j) (by omega)
              cases hb : dp ths T k j with
              | true =>
                rw [hb] at cR
                have hd : dp ths T (k + 1) j = true := hiff.2 ⟨j, by omega, hb⟩
                have hs' : Hid (x.isAny = true → (true = true ↔ ∃ d, d < j + 1 ∧ dp ths T k d = true)) := fun _ => ⟨fun _ => hiff.1 hd, fun _ => rfl⟩
                have hN' := Lib.hid (hput.out true hd)
                clear hstay hN hR hsm hsm1 hiff hd hC hb
                go_wp2_with fail
                go_roundw
                case rel => exact ⟨j + 1, true, by omega, by go_num, rfl, hs', hRp.out _, hN'.out, hCp.out _⟩
                case measure => simp [intOf]; omega
              | false =>
                rw [hb] at cR
                have hno : ¬ ∃ d, d < j + 1 ∧ dp ths T k d = true := by
                  rintro ⟨d, h1, h2⟩
                  by_cases e : d = j
                  · subst e; rw [hb] at h2; cases h2
                  · have := hsm1.2 ⟨d, by omega, h2⟩; cases this
                have hd : dp ths T (k + 1) j = false := by
                  rw [Bool.eq_false_iff]; intro h1; exact hno (hiff.1 h1)
                have hs' : Hid (x.isAny = true → (false = true ↔ ∃ d, d < j + 1 ∧ dp ths T k d = true)) := fun _ => ⟨fun h1 => (by cases h1), fun h1 => absurd h1 hno⟩
                have hN' := Lib.hid (hput.out false hd)
                clear hstay hN hR hsm hsm1 hiff hd hC hb hno
                go_wp2_with fail
                go_roundw
                case rel => exact ⟨j + 1, false, by omega, by go_num, rfl, hs', hRp.out _, hN'.out, hCp.out _⟩
                case measure => simp [intOf]; omega
          case inr =>
            rw [hxa] at cA
            have hs' : ∀ sm, Hid (x.isAny = true → (sm = true ↔ ∃ d, d < j + 1 ∧ dp ths T k d = true)) := fun sm h1 => by rw [hxa] at h1; cases h1
            have hdf := dp_first (T := T) hx hxa
            have hdb := fun (i : Nat) (c : UInt8) (hc : T[i]? = some c) => dp_byte hx hxa hc
            replace hxa := Lib.hid hxa
            replace hdf := Lib.hid hdf
            replace hdb := Lib.hid hdb
            by_cases hj0 : j = 0
            · subst hj0
              have hN' := Lib.hid (hstay hdf.out)
              replace hR := Lib.hid hR
              replace hC := Lib.hid hC
              clear hput hstay hN hsm hRp hCp cN fN
              go_wp2_with fail
              go_quiet (fail)
              go_wp2_with fail
              go_roundw
              case rel => exact ⟨1, sm, by omega, by go_num, rfl, hs' sm, hR.out.chg ((Chg.refl [] wr).drewN nq) (by simp), hN'.out.chg ((Chg.refl [] wr).drewN nq) (by simp), hC.out.drewN nq⟩
              case measure => simp [intOf]
            · obtain ⟨i, rfl⟩ : ∃ i, j = i + 1 := ⟨j - 1, by omega⟩
              obtain ⟨a, ha⟩ : ∃ a, a = t[i]'(by omega) := ⟨_, rfl⟩
              have hd := hdb.out i a ((hby.out i (by omega)).trans (by rw [← ha]))
              have cR := hR.cell (i := i) (by omega)
              have cO := hC.cell (hOne.out a) (by simp)
              rw [← Nat.add_assoc] at cO
              have ha' := ha.symm
              have h256 : (a.toNat : Int) < 256 := by have := a.toNat_lt; omega
              have h0 : (0 : Int) ≤ a.toNat := by omega
              have ew : IntKind.i64.wrap (i : Int) = (i : Int) := IntWalk.i64_in _ (by omega)
              have hput' := Lib.hid (hput.out true)
              have hstay' := Lib.hid hstay
              replace hR := Lib.hid hR
              replace hC := Lib.hid hC
              replace hd := Lib.hid hd
              clear ha hsm hN hput hstay hj0
              cases hb : dp ths T k i with
              | true =>
                rw [hb] at cR
                cases hq : x.has a with
                | true =>
                  rw [hq] at cO
                  have hN' := Lib.hid (hput'.out (by rw [hd.out, hb, hq]; rfl))
                  clear hput' hstay' hd hb hq
                  go_wp2_with fail
                  go_quiet (fail)
                  go_wp2_with fail
                  go_roundw
                  case rel => exact ⟨i + 1 + 1, sm, by omega, by go_num, rfl, hs' sm, (hRp.out true).chg ((Chg.refl [] (wr.setCell ⟨g2, i + 1, none⟩ (.bool true))).drewN nq) (by simp), hN'.out.chg ((Chg.refl [] (wr.setCell ⟨g2, i + 1, none⟩ (.bool true))).drewN nq) (by simp), (hCp.out true).drewN nq⟩
                  case measure => simp [intOf]; omega
                | false =>
                  rw [hq] at cO
                  have hN' := Lib.hid (hstay'.out (by rw [hd.out, hb, hq]; rfl))
                  clear hput' hstay' hd hb hq cN fN
                  go_wp2_with fail
                  go_quiet (fail)
                  go_wp2_with fail
                  go_roundw
                  case rel => exact ⟨i + 1 + 1, sm, by omega, by go_num, rfl, hs' sm, hR.out.chg ((Chg.refl [] wr).drewN nq) (by simp), hN'.out.chg ((Chg.refl [] wr).drewN nq) (by simp), hC.out.drewN nq⟩
                  case measure => simp [intOf]; omega
              | false =>
                rw [hb] at cR
                have hN' := Lib.hid (hstay'.out (by rw [hd.out, hb]; rfl))
                clear hput' hstay' hd hb cN fN cO
                go_wp2_with fail
                go_quiet (fail)
                go_wp2_with fail
                go_roundw
                case rel => exact ⟨i + 1 + 1, sm, by omega, by go_num, rfl, hs' sm, hR.out.chg ((Chg.refl [] wr).drewN nq) (by simp), hN'.out.chg ((Chg.refl [] wr).drewN nq) (by simp), hC.out.drewN nq⟩
                case measure => simp [intOf]; omega
        · obtain rfl : j = t.size + 1 := by omega
          have hN' := Lib.hid (hN.congr (f' := dp ths T (k + 1)) (fun i hi => by simp [hi]))
          replace hC := Lib.hid hC
          clear hN hR hsm
          go_wp2_with fail
          go_roundw
          case rel => exact ⟨k + 1, g2, by omega, by go_num, rfl, hN'.out, hC.out⟩
          case measure => simp [intOf]; omega
    · obtain rfl : k = n := by omega
      have cL := hR.cell (i := t.size) (by omega)
      have e : dp ths T k t.size = Like ths T := by unfold dp; rw [List.take_of_length_le (by omega), List.take_of_length_le (by rw [hTl.out]; omega)]
      rw [e] at cL
      go_wp2
      go_ret
      exact ⟨rfl, hC⟩
end Go.Proofs.Ytjocfajnabkhaaa
