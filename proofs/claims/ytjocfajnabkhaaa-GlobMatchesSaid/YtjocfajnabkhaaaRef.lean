/- Contracts of the reference of layer 13: all, set. Conditions: as each states. -/
import Derived.Test.YtjocfajnabkhaaaGlob
set_option linter.unusedVariables false
set_option linter.unusedSimpArgs false
namespace Go.Proofs.Ytjocfajnabkhaaa
open Go.RowKit Glob

/-- A thing's 257 cells, as the reference lays them. -/
def rowOf (any : Bool) (x : UInt8 → Bool) : List Value := .bool any :: (List.range 256).map fun i => .bool (x (UInt8.ofNat i))
theorem rowOf_length (any : Bool) (x : UInt8 → Bool) : (rowOf any x).length = 257 := by simp [rowOf]
theorem rowOf_zero (any : Bool) (x : UInt8 → Bool) : (rowOf any x)[0]? = some (.bool any) := rfl
theorem rowOf_succ (any : Bool) (x : UInt8 → Bool) (c : UInt8) : (rowOf any x)[1 + c.toNat]? = some (.bool (x c)) := by
  have := c.toNat_lt
  rw [Nat.add_comm]
  simp [rowOf, List.getElem?_cons_succ, List.getElem?_map, List.getElem?_range, this]
theorem rowOf_one (any : Bool) (x : UInt8 → Bool) : ∀ v ∈ rowOf any x, v.oneCell' = true := by
  intro v hv
  simp only [rowOf, List.mem_cons, List.mem_map] at hv
  rcases hv with rfl | ⟨i, _, rfl⟩ <;> rfl
def RBits (w : World) (b : Nat) (any : Bool) (x : UInt8 → Bool) : Prop := ∃ cs, w.heap[b]? = some (.cells cs 46 (0, 0)) ∧ cs.size = 257 ∧ cs[0]? = some (.bool any) ∧ ∀ c : UInt8, cs[1 + c.toNat]? = some (.bool (x c))
theorem RBits.row {w : World} {b : Nat} {any : Bool} {x : UInt8 → Bool} (h : RBits w b any x) : w.heap[b]? = some (.cells (rowOf any x).toArray 46 (0, 0)) := by
  obtain ⟨cs, h1, h2, h3, h4⟩ := h
  have : cs = (rowOf any x).toArray := by
    apply Array.ext'
    apply List.ext_getElem?
    intro i
    rw [List.toList_toArray]
    rcases Nat.lt_trichotomy i 0 with hi | rfl | hi
    · omega
    · rw [rowOf_zero, Array.getElem?_toList, h3]
    · by_cases hi2 : i < 257
      · obtain ⟨c, rfl⟩ : ∃ c : UInt8, i = 1 + c.toNat := ⟨UInt8.ofNat (i - 1), by simp; omega⟩
        rw [rowOf_succ, Array.getElem?_toList, h4]
      · rw [List.getElem?_eq_none (by simp; omega), List.getElem?_eq_none (by rw [rowOf_length]; omega)]
  rw [← this]; exact h1
theorem RBits.cell {w : World} {b : Nat} {any : Bool} {x : UInt8 → Bool} (h : RBits w b any x) (c : UInt8) : w.cell? ⟨b, 1 + c.toNat, none⟩ = some (.bool (x c)) := by
  obtain ⟨cs, h1, h2, h3, h4⟩ := h; simp [World.cell?, h1, h4]
theorem RBits.frozen {w : World} {b : Nat} {any : Bool} {x : UInt8 → Bool} (h : RBits w b any x) (c : UInt8) : w.frozen? ⟨b, 1 + c.toNat, none⟩ = false := by
  obtain ⟨cs, h1, h2, h3⟩ := h; simp [World.frozen?, h1]
theorem RBits.put {w : World} {b : Nat} {any : Bool} {x : UInt8 → Bool} (h : RBits w b any x) (a : UInt8) : RBits (w.setCell ⟨b, 1 + a.toNat, none⟩ (.bool true)) b any (fun c => a == c || x c) := by
  obtain ⟨cs, h1, h2, h3, h4⟩ := h
  refine ⟨_, blk_set h1 _ _, by simpa using h2, ?_, fun c => ?_⟩
  · rw [Array.getElem?_setIfInBounds, if_neg (by omega), h3]
  · rw [Array.getElem?_setIfInBounds]
    by_cases e : a = c
    · subst e; have := a.toNat_lt; simp [h2]; omega
    · have : 1 + a.toNat ≠ 1 + c.toNat := fun e' => e (UInt8.toNat_inj.1 (by omega))
      rw [if_neg this, h4 c]
      simp [e]
theorem RBits.congr {w : World} {b : Nat} {any : Bool} {x y : UInt8 → Bool} (h : RBits w b any x) (e : ∀ c, x c = y c) : RBits w b any y := by
  have : x = y := funext e
  rw [← this]; exact h
theorem RBits.chg {S : List Nat} {w w' : World} {b : Nat} {any : Bool} {x : UInt8 → Bool} (h : RBits w b any x) (hc : Chg S w w') (hb : b ∉ S) : RBits w' b any x := by
  obtain ⟨cs, h1, h2, h3⟩ := h; exact ⟨cs, hc.heap h1 hb, h2, h3⟩
theorem zero_row : Try.zeroCells46 = (rowOf false fun _ => false).toArray := by kernel_rfl
theorem RBits.of_row {w : World} {b : Nat} {any : Bool} {x : UInt8 → Bool} (h : w.heap[b]? = some (.cells (rowOf any x).toArray 46 (0, 0))) : RBits w b any x :=
  ⟨_, h, by simp [rowOf_length], by simp [rowOf_zero], fun c => by rw [List.getElem?_toArray]; exact rowOf_succ any x c⟩

/-- A whole block stored anew, told by what it is then. -/
theorem run_store_block {P : Program} (w : World) (g : Nat) (t : TypeId) (old : Array Value) (cs : List Value) (hg : w.heap[g]? = some (.cells old t (0, 0))) (hs : old.size = cs.length) (h1 : ∀ v ∈ cs, v.oneCell' = true) :
    ∃ w', (storeCells ⟨g, 0, none⟩ cs).run P w = .ok () w' ∧ w'.heap[g]? = some (.cells cs.toArray t (0, 0)) ∧ Chg [g] w w' := by
  have h := run_storeCells_from (P := P) g t cs 0 old w hg (by omega) h1
  refine ⟨_, h, ?_, ⟨rfl, rfl, rfl, by simp [World.setRow], fun k hk hm => setRow_other w g k _ (by simpa using hm)⟩⟩
  rw [List.take_zero, List.nil_append]
  exact setRow_heap w g old _ t (0, 0) hg
/-- A whole block loaded. -/
theorem run_load_block {P : Program} (w : World) (g : Nat) (t : TypeId) (cs : List Value) (hg : w.heap[g]? = some (.cells cs.toArray t (0, 0))) (n : Nat) (hn : cs.length = n) :
    (loadCells ⟨g, 0, none⟩ n).run P w = .ok cs.toArray w := by
  subst hn
  refine run_loadCells_list w _ cs (fun j v hv => ?_)
  have ha : (⟨g, 0, none⟩ : Addr).add j = ⟨g, j, none⟩ := by unfold Addr.add; split <;> simp_all
  rw [ha]
  simp [World.cell?, hg, hv]

theorem wpList_store_block {P : Program} {ops : Array Oper} {rest : List Oper} {o : Oper} {a : Act} {w : World} {Q : Exit → Act → World → Prop} (hgd : o.guard = none)
    (ty : TypeId) (x y : Operand) (ho : o.op = .store ty x y) (g : Nat) (cs : List Value) (hx : a.eval x = .pointer (some ⟨g, 0, none⟩))
    (hy : a.eval y = .agg cs.toArray) (t : TypeId) (old : Array Value) (hg : w.heap[g]? = some (.cells old t (0, 0))) (hi : (P.info? ty).map (·.size) = some cs.length)
    (hold : old.size = cs.length) (h1 : ∀ v ∈ cs, v.oneCell' = true)
    (h : ∀ w', w'.heap[g]? = some (.cells cs.toArray t (0, 0)) → Chg [g] w w' → wpList P ops Q rest (a.put o.dst undef) w') : wpList P ops Q (o :: rest) a w := by
  refine wpList_store_row hgd ty x y ho g cs.toArray hx hy t old hg (by rw [hi]; simp) (by simpa using hold) (by simpa using h1) ?_
  exact h _ (setRow_heap w g old _ t (0, 0) hg) ⟨rfl, rfl, rfl, by simp [World.setRow], fun k hk hm => setRow_other w g k _ (by simpa using hm)⟩
theorem Try.thing_size : (Try.prog.info? 46).map (·.size) = some 257 := by kernel_rfl
/-- Two new things: the result's cell, and the variable's, which is then laid anew. -/
theorem two_new (w : World) : ∃ w1, (storeCells ⟨w.heap.size + 1, 0, none⟩ Try.zeroCells46.toList).run Try.prog ((w.alloc (.cells Try.zeroCells46 46)).alloc (.cells Try.zeroCells46 46)) = .ok () w1 ∧
    RBits w1 (w.heap.size + 1) false (fun _ => false) ∧ RBits w1 w.heap.size false (fun _ => false) ∧ Chg [] w w1 := by
  obtain ⟨w1, hw1, hb1, hc1⟩ := run_store_block (P := Try.prog) ((w.alloc (.cells Try.zeroCells46 46)).alloc (.cells Try.zeroCells46 46)) (w.heap.size + 1) 46 Try.zeroCells46 Try.zeroCells46.toList
    (by have := blk_new (w.alloc (.cells Try.zeroCells46 46)) (.cells Try.zeroCells46 46); rw [show (w.alloc (.cells Try.zeroCells46 46)).heap.size = w.heap.size + 1 from Array.size_push ..] at this; exact this)
    (by simp) (by rw [zero_row]; intro v hv; exact rowOf_one _ _ v (by simpa using hv))
  have hC1 : Chg [] w w1 := (((Chg.refl [] w).alloc _).alloc _).then hc1 (by intro x hx; simp at hx; right; omega)
  have hB1 : RBits w1 (w.heap.size + 1) false (fun _ => false) := RBits.of_row (by rw [hb1, zero_row])
  have hR1 : RBits w1 w.heap.size false (fun _ => false) := by
    refine RBits.of_row (hc1.heap (k := w.heap.size) (blk_alloc ?_ _) (by simp))
    have := blk_new w (.cells Try.zeroCells46 46)
    rw [this, zero_row]

  exact ⟨w1, hw1, hB1, hR1, hC1⟩
def OneEnd (w : World) (any : Bool) (x : UInt8 → Bool) (e : Ending) (w' : World) : Prop := e = .returned (.agg (rowOf any x).toArray) ∧ Chg [] w w'
set_option maxRecDepth 100000 in
set_option maxHeartbeats 1000000 in
theorem all_ref (w : World) : Calls Try.prog 19 #[] w (OneEnd w false (fun _ => true)) := by
  obtain ⟨w1, hw1, hB1, hR1, hC1⟩ := two_new w
  go_enter Try.func19, Try.ntmps19
  go_wp2_with fail
  go_loopw [2] (fun i wr => ∃ (k : Nat), k ≤ 256 ∧ i = .int .i64 k ∧ RBits wr (w.heap.size + 1) false (fun c => decide (c.toNat < k)) ∧ RBits wr w.heap.size false (fun _ => false) ∧ Chg [] w wr) (fun i _ => 256 - (intOf i).toNat)
  case atStart => exact ⟨0, by omega, rfl, hB1.congr (fun c => by simp), hR1, hC1⟩
  case round =>
    obtain ⟨k, hk, rfl, hB, hR, hC⟩ := hrel
    by_cases hlt : k < 256
    · obtain ⟨cz, hcz⟩ : ∃ cz : UInt8, cz.toNat = k := ⟨UInt8.ofNat k, by simp; omega⟩
      subst hcz
      have hcell := hB.cell cz
      have hfr := hB.frozen cz
      have hput := (hB.put cz).congr (y := fun z => decide (z.toNat < cz.toNat + 1)) (fun z => by
        rw [Bool.eq_iff_iff]; simp only [Bool.or_eq_true, beq_iff_eq, decide_eq_true_eq]
        constructor
        · rintro (h | h)
          · subst h; omega
          · omega
        · intro h
          by_cases e : z.toNat = cz.toNat
          · exact .inl (UInt8.toNat_inj.1 e.symm)
          · exact .inr (by omega))
      have hRp : RBits (wr.setCell ⟨w.heap.size + 1, 1 + cz.toNat, none⟩ (.bool true)) w.heap.size false (fun _ => false) := hR.chg ((Chg.refl [w.heap.size + 1] wr).setCell (.inl (by simp)) _) (by simp)
      have hCp : Chg [] w (wr.setCell ⟨w.heap.size + 1, 1 + cz.toNat, none⟩ (.bool true)) := hC.setCell (.inr (by simp)) _
      replace hput := Lib.hid hput
      replace hCp := Lib.hid hCp
      replace hRp := Lib.hid hRp
      clear hB hC hR
      go_wp2_with fail
      go_roundw
      case rel => exact ⟨cz.toNat + 1, by omega, by go_num, hput.out, hRp.out, hCp.out⟩
      case measure => simp [intOf]; omega
    · obtain rfl : k = 256 := by omega
      have hrow := (hB.congr (y := fun _ => true) (fun c => by have := c.toNat_lt; simp; omega)).row
      have hR0 := hR.row
      have hn : (rowOf false fun _ => true).length = 257 := rowOf_length _ _
      have hn0 : (rowOf false fun _ => false).length = 257 := rowOf_length _ _
      have hone : ∀ v ∈ rowOf false (fun _ => true), v.oneCell' = true := rowOf_one _ _
      have hne : w.heap.size + 1 ≠ w.heap.size := by omega
      clear hB hR
      replace hrow := Lib.hid hrow
      replace hR0 := Lib.hid hR0
      replace hone := Lib.hid hone
      replace hn := Lib.hid hn
      replace hn0 := Lib.hid hn0
      replace hC := Lib.hid hC
      go_wp2_with (refine wpList_load_row (o := ⟨some 11, _, _, _, _, _⟩) rfl 46 (.tmp 1) rfl (w.heap.size + 1) rfl 46 _ (0, 0) _ hrow.out Try.underlying46 rfl (Try.thing_size.trans (by simp [hn.out])) ?_; refine wpList_store_block rfl 46 (.tmp 0) (.tmp 11) rfl w.heap.size (rowOf false fun _ => true) rfl rfl 46 _ hR0.out (Try.thing_size.trans (by rw [hn.out])) (by simp [hn.out, hn0.out]) hone.out ?_)
      intro w2 hb2 hc2
      have hC2 := hC.out.then hc2 (by intro x hx; simp at hx; right; omega)
      replace hC2 := Lib.hid hC2
      replace hb2 := Lib.hid hb2
      clear hc2
      go_wp2_with fail
      refine bodyPost_ret (v := .agg (rowOf false fun _ => true).toArray) ?_ rfl ⟨rfl, hC2.out⟩
      exact results_cell_row rfl _ _ _ 46 _ (0, 0) _ rfl hb2.out Try.underlying46 rfl (Try.thing_size.trans (by simp [hn.out]))
set_option maxRecDepth 100000 in
set_option maxHeartbeats 2000000 in
theorem set_ref (s : ByteArray) (hs : s.size ≤ 1024) (w : World) : Calls Try.prog 20 #[.string s] w (OneEnd w false (setHas s.data.toList)) := by
  obtain ⟨w1, hw1, hB1, hR1, hC1⟩ := two_new w
  obtain ⟨l, hl⟩ : ∃ l, l = s.data.toList := ⟨_, rfl⟩
  have hls : l.length = s.size := by rw [hl, Array.length_toList]; rfl
  have hby : ∀ i (h : i < s.size), l[i]? = some (s[i]'h) := fun i h => by rw [hl]; exact byte_at s i h
  rw [← hl]
  replace hls := Lib.hid hls
  replace hby := Lib.hid hby
  clear hl
  go_enter Try.func20, Try.ntmps20
  go_wp2_with fail
  go_loopw [4] (fun i wr => ∃ (k : Nat) (x : UInt8 → Bool), k ≤ s.size ∧ i = .int .i64 k ∧ RBits wr (w.heap.size + 1) false x ∧ RBits wr w.heap.size false (fun _ => false) ∧ Hid (∀ c, (x c || setHas (l.drop k) c) = setHas l c) ∧ Chg [] w wr) (fun i _ => s.size - (intOf i).toNat)
  case atStart => exact ⟨0, _, by omega, rfl, hB1, hR1, (show ∀ c, _ by intro c; simp), hC1⟩
  case round =>
    obtain ⟨k, x, hk, rfl, hB, hR, hx, hC⟩ := hrel
    by_cases hlt : k < s.size
    · obtain ⟨a, ha⟩ : ∃ a, a = s[k]'hlt := ⟨_, rfl⟩
      have hla := drop_at ((hby.out k hlt).trans (by rw [← ha]))
      have ha' := ha.symm
      have hcell := hB.cell a
      have hfr := hB.frozen a
      have hput := hB.put a
      have hCp : Chg [] w (wr.setCell ⟨w.heap.size + 1, 1 + a.toNat, none⟩ (.bool true)) := hC.setCell (.inr (by simp)) _
      have hRp : RBits (wr.setCell ⟨w.heap.size + 1, 1 + a.toNat, none⟩ (.bool true)) w.heap.size false (fun _ => false) := hR.chg ((Chg.refl [w.heap.size + 1] wr).setCell (.inl (by simp)) _) (by simp)
      have h256 : (a.toNat : Int) < 256 := by have := a.toNat_lt; omega
      have h0 : (0 : Int) ≤ a.toNat := by omega
      by_cases hr : k + 2 < s.size ∧ ∃ h, s[k + 1]'h = 45
      · obtain ⟨hr1, hr2, hr3⟩ := hr
        obtain ⟨d, hd⟩ : ∃ d, d = s[k + 2]'hr1 := ⟨_, rfl⟩
        have h1 := drop_at ((hby.out (k + 1) (by omega)).trans (by rw [hr3]))
        have h2 := drop_at ((hby.out (k + 2) (by omega)).trans (by rw [← hd]))
        have hrange : ∀ c, (setHas (l.drop k) c) = ((decide (a ≤ c) && decide (c ≤ d)) || setHas (l.drop (k + 3)) c) := by
          intro c
          rw [hla, h1, h2]; exact setHas_range a d c _
        have hx' : Hid (∀ c, ((x c || (decide (a ≤ c) && decide (c ≤ d))) || setHas (l.drop (k + 3)) c) = setHas l c) := by
          show ∀ c, _
          intro c
          rw [← hx.out c, hrange c]
          cases x c <;> cases (decide (a ≤ c) && decide (c ≤ d)) <;> cases setHas (l.drop (k + 3)) c <;> rfl
        have hd' := hd.symm
        have hb : (((s[k + 1]'(by omega)).toNat : Int) == 45) = true := by rw [hr3]; rfl
        have hd256 : (d.toNat : Int) < 256 := by have := d.toNat_lt; omega
        have hd0 : (0 : Int) ≤ d.toNat := by omega
        clear hx hrange h1 h2 hla ha hd hr3 hput hCp hRp hcell hfr
        obtain ⟨wo, rfl⟩ : ∃ wo : World, wo = wr := ⟨_, rfl⟩
        go_wp2_with fail
        go_loopw [5] (fun i wx => ∃ (c : Nat), a.toNat ≤ c ∧ (c ≤ a.toNat ∨ c ≤ d.toNat + 1) ∧ i = .int .i64 c ∧ RBits wx (w.heap.size + 1) false (fun z => x z || (decide (a ≤ z) && decide (z.toNat < c))) ∧ RBits wx w.heap.size false (fun _ => false) ∧ Chg [] w wx) (fun i _ => 257 - (intOf i).toNat)
        case atStart =>
          refine ⟨a.toNat, Nat.le_refl _, .inl (Nat.le_refl _), rfl, hB.congr (fun z => ?_), hR, hC⟩
          rw [Bool.eq_iff_iff]; simp [UInt8.le_iff_toNat_le]; omega
        case round =>
          obtain ⟨c, hc1, hc2, rfl, hB, hR, hC⟩ := hrel
          by_cases hcd : c ≤ d.toNat
          · obtain ⟨cz, hcz⟩ : ∃ cz : UInt8, cz.toNat = c := ⟨UInt8.ofNat c, by simp; omega⟩
            subst hcz
            have hcell := hB.cell cz
            have hfr := hB.frozen cz
            have hput := (hB.put cz).congr (y := fun z => x z || (decide (a ≤ z) && decide (z.toNat < cz.toNat + 1))) (fun z => by
              rw [Bool.eq_iff_iff]; simp only [Bool.or_eq_true, Bool.and_eq_true, beq_iff_eq, decide_eq_true_eq, UInt8.le_iff_toNat_le]
              constructor
              · rintro (h | h | h)
                · subst h; exact .inr ⟨hc1, by omega⟩
                · exact .inl h
                · exact .inr ⟨h.1, by omega⟩
              · rintro (h | h)
                · exact .inr (.inl h)
                · by_cases e : z.toNat = cz.toNat
                  · exact .inl (UInt8.toNat_inj.1 e.symm)
                  · exact .inr (.inr ⟨h.1, by omega⟩))
            have hCp : Chg [] w (wr.setCell ⟨w.heap.size + 1, 1 + cz.toNat, none⟩ (.bool true)) := hC.setCell (.inr (by simp)) _
            have hRp : RBits (wr.setCell ⟨w.heap.size + 1, 1 + cz.toNat, none⟩ (.bool true)) w.heap.size false (fun _ => false) := hR.chg ((Chg.refl [w.heap.size + 1] wr).setCell (.inl (by simp)) _) (by simp)
            have hz256 : (cz.toNat : Int) < 256 := by omega
            have hz0 : (0 : Int) ≤ cz.toNat := by omega
            replace hput := Lib.hid hput
            replace hCp := Lib.hid hCp
            replace hRp := Lib.hid hRp
            clear hB hC hR
            go_wp2_with fail
            go_roundw
            case rel => exact ⟨cz.toNat + 1, by omega, by omega, by go_num, hput.out, hRp.out, hCp.out⟩
            case measure => simp [intOf]; omega
          · have hfin : RBits wr (w.heap.size + 1) false (fun z => x z || (decide (a ≤ z) && decide (z ≤ d))) := hB.congr (fun z => by
              rw [Bool.eq_iff_iff]; simp only [Bool.or_eq_true, Bool.and_eq_true, decide_eq_true_eq, UInt8.le_iff_toNat_le]
              constructor
              · rintro (h | h)
                · exact .inl h
                · exact .inr ⟨h.1, by omega⟩
              · rintro (h | h)
                · exact .inl h
                · exact .inr ⟨h.1, by omega⟩)
            replace hfin := Lib.hid hfin
            clear hB
            go_wp2_with fail
            go_roundw
            case rel => exact ⟨k + 3, _, by omega, by go_num, hfin.out, hR, hx', hC⟩
            case measure => simp [intOf]; omega
      · have hone : ∀ c, (setHas (l.drop k) c) = ((a == c) || setHas (l.drop (k + 1)) c) := by
          intro c
          rw [hla]
          refine setHas_one a c _ (fun d r' e => hr ?_)
          have h1 : (l.drop (k + 1)).length ≥ 2 := by rw [e]; simp
          have h2 := hls.out
          simp only [List.length_drop] at h1
          have h3 := drop_at (hby.out (k + 1) (by omega))
          rw [h3] at e
          exact ⟨by omega, by omega, by simpa using (List.cons.inj e).1⟩
        have hx' : Hid (∀ c, ((a == c || x c) || setHas (l.drop (k + 1)) c) = setHas l c) := by
          show ∀ c, _
          intro c
          rw [← hx.out c, hone c]
          cases (a == c) <;> cases x c <;> cases setHas (l.drop (k + 1)) c <;> rfl
        replace hput := Lib.hid hput
        replace hCp := Lib.hid hCp
        replace hRp := Lib.hid hRp
        clear hB hC hR hx hone hla ha
        by_cases hr1 : k + 2 < s.size
        · have h45 : ((s[k + 1]'(by omega)).toNat : Int) ≠ 45 := fun e => hr ⟨hr1, by omega, UInt8.toNat_inj.1 (by simpa using (by omega : (s[k + 1]'(by omega)).toNat = 45))⟩
          clear hr
          have hb : (((s[k + 1]'(by omega)).toNat : Int) == 45) = false := by simpa using h45
          clear h45
          go_wp2_with fail
          go_roundw
          case rel => exact ⟨k + 1, _, by omega, by go_num, hput.out, hRp.out, hx', hCp.out⟩
          case measure => simp [intOf]; omega
        · clear hr
          go_wp2_with fail
          go_roundw
          case rel => exact ⟨k + 1, _, by omega, by go_num, hput.out, hRp.out, hx', hCp.out⟩
          case measure => simp [intOf]; omega
    · have hks : k = s.size := by omega
      subst hks
      have hfin : RBits wr (w.heap.size + 1) false (setHas l) := hB.congr (fun c => by
        have := hx.out c
        rw [List.drop_eq_nil_of_le (by rw [hls.out]; omega)] at this
        simpa [setHas] using this)
      have hrow := Lib.hid hfin.row
      have hR0 := Lib.hid hR.row
      have hn : Hid ((rowOf false (setHas l)).length = 257) := rowOf_length _ _
      have hn0 : Hid ((rowOf false fun _ => false).length = 257) := rowOf_length _ _
      have hone := Lib.hid (rowOf_one false (setHas l))
      clear hB hx hfin hR
      replace hC := Lib.hid hC
      go_wp2_with (refine wpList_load_row (o := ⟨some 48, _, _, _, _, _⟩) rfl 46 (.tmp 3) rfl (w.heap.size + 1) rfl 46 _ (0, 0) _ hrow.out Try.underlying46 rfl (Try.thing_size.trans (by simp [hn.out])) ?_; refine wpList_store_block rfl 46 (.tmp 2) (.tmp 48) rfl w.heap.size (rowOf false (setHas l)) rfl rfl 46 _ hR0.out (Try.thing_size.trans (by rw [hn.out])) (by simp [hn.out, hn0.out]) hone.out ?_)
      intro w2 hb2 hc2
      have hC2 := hC.out.then hc2 (by intro x hx; simp at hx; right; omega)
      replace hC2 := Lib.hid hC2
      replace hb2 := Lib.hid hb2
      clear hc2
      go_wp2_with fail
      refine bodyPost_ret (v := .agg (rowOf false (setHas l)).toArray) ?_ rfl ⟨rfl, hC2.out⟩
      exact results_cell_row rfl _ _ _ 46 _ (0, 0) _ rfl hb2.out Try.underlying46 rfl (Try.thing_size.trans (by simp [hn.out]))
end Go.Proofs.Ytjocfajnabkhaaa
