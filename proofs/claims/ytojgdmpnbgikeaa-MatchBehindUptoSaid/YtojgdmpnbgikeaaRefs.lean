/- Ref, RefThings, RefLike, RefSpan, Ref15, RefHit: texts of mine, joined. Conditions: as they state. -/
import Derived.Test.YtojgdmpnbgikeaaGlob
import Derived.Test.YtojgdmpnbgikeaaThings
import Derived.Test.YtojgdmpnbgikeaaWide
import Derived.Deep.Cut
import Derived.Test.YtojgdmpnbgikeaaMatch
import Derived.Test.YtojgdmpnbgikeaaMAlive
set_option linter.unusedVariables false
set_option linter.unusedSimpArgs false
namespace Go.Proofs.Ytojgdmpnbgikeaa
open Go.RowKit Glob

/-- A thing's 257 cells, as the reference lays them. -/
def rowOf (any : Bool) (x : UInt8 → Bool) : List Value := .bool any :: (List.range 256).map fun i => .bool (x (UInt8.ofNat i))
theorem rowOf_length (any : Bool) (x : UInt8 → Bool) : (rowOf any x).length = 257 := by simp [rowOf]
theorem rowOf_zero (any : Bool) (x : UInt8 → Bool) : (rowOf any x)[0]? = some (.bool any) := rfl
theorem rowOf_succ (any : Bool) (x : UInt8 → Bool) (c : UInt8) : (rowOf any x)[1 + c.toNat]? = some (.bool (x c)) := by
  have := c.toNat_lt
  rw [Nat.add_comm]
  simp [rowOf, List.getElem?_cons_succ, List.getElem?_map, List.getElem?_range, this]
theorem rowOf_one (any : Bool) (x : UInt8 → Bool) : ∀ v ∈ rowOf any x, v.oneCell' = true := by
  intro v hv
  simp only [rowOf, List.mem_cons, List.mem_map] at hv
  rcases hv with rfl | ⟨i, _, rfl⟩ <;> rfl
def RBits (w : World) (b : Nat) (any : Bool) (x : UInt8 → Bool) : Prop := ∃ cs, w.heap[b]? = some (.cells cs 80 (0, 0)) ∧ cs.size = 257 ∧ cs[0]? = some (.bool any) ∧ ∀ c : UInt8, cs[1 + c.toNat]? = some (.bool (x c))
theorem RBits.row {w : World} {b : Nat} {any : Bool} {x : UInt8 → Bool} (h : RBits w b any x) : w.heap[b]? = some (.cells (rowOf any x).toArray 80 (0, 0)) := by
  obtain ⟨cs, h1, h2, h3, h4⟩ := h
  have : cs = (rowOf any x).toArray := by
    apply Array.ext'
    apply List.ext_getElem?
    intro i
    rw [List.toList_toArray]
    rcases Nat.lt_trichotomy i 0 with hi | rfl | hi
    · omega
    · rw [rowOf_zero, Array.getElem?_toList, h3]
    · by_cases hi2 : i < 257
      · obtain ⟨c, rfl⟩ : ∃ c : UInt8, i = 1 + c.toNat := ⟨UInt8.ofNat (i - 1), by simp; omega⟩
        rw [rowOf_succ, Array.getElem?_toList, h4]
      · rw [List.getElem?_eq_none (by simp; omega), List.getElem?_eq_none (by rw [rowOf_length]; omega)]
  rw [← this]; exact h1
theorem RBits.cell {w : World} {b : Nat} {any : Bool} {x : UInt8 → Bool} (h : RBits w b any x) (c : UInt8) : w.cell? ⟨b, 1 + c.toNat, none⟩ = some (.bool (x c)) := by
  obtain ⟨cs, h1, h2, h3, h4⟩ := h; simp [World.cell?, h1, h4]
theorem RBits.frozen {w : World} {b : Nat} {any : Bool} {x : UInt8 → Bool} (h : RBits w b any x) (c : UInt8) : w.frozen? ⟨b, 1 + c.toNat, none⟩ = false := by
  obtain ⟨cs, h1, h2, h3⟩ := h; simp [World.frozen?, h1]
theorem RBits.put {w : World} {b : Nat} {any : Bool} {x : UInt8 → Bool} (h : RBits w b any x) (a : UInt8) : RBits (w.setCell ⟨b, 1 + a.toNat, none⟩ (.bool true)) b any (fun c => a == c || x c) := by
  obtain ⟨cs, h1, h2, h3, h4⟩ := h
  refine ⟨_, blk_set h1 _ _, by simpa using h2, ?_, fun c => ?_⟩
  · rw [Array.getElem?_setIfInBounds, if_neg (by omega), h3]
  · rw [Array.getElem?_setIfInBounds]
    by_cases e : a = c
    · subst e; have := a.toNat_lt; simp [h2]; omega
    · have : 1 + a.toNat ≠ 1 + c.toNat := fun e' => e (UInt8.toNat_inj.1 (by omega))
      rw [if_neg this, h4 c]
      simp [e]
theorem RBits.congr {w : World} {b : Nat} {any : Bool} {x y : UInt8 → Bool} (h : RBits w b any x) (e : ∀ c, x c = y c) : RBits w b any y := by
  have : x = y := funext e
  rw [← this]; exact h
theorem RBits.chg {S : List Nat} {w w' : World} {b : Nat} {any : Bool} {x : UInt8 → Bool} (h : RBits w b any x) (hc : Chg S w w') (hb : b ∉ S) : RBits w' b any x := by
  obtain ⟨cs, h1, h2, h3⟩ := h; exact ⟨cs, hc.heap h1 hb, h2, h3⟩
/-- A thing's zero value, under a name. -/
def Try.zeroCells80 : Array Value := Array.replicate 257 (.bool false)
@[go_sem] theorem Try.zeroValue80 (w : World) : (zeroValue 80).run Try.prog w = .ok (.agg Try.zeroCells80) w := by kernel_rfl
@[go_sem, simp] theorem Try.zt_size : Try.zeroCells80.size = 257 := by kernel_rfl
@[simp] theorem Try.zt_ne : Try.zeroCells80 ≠ #[] := fun e => by have := congrArg Array.size e; simp at this
theorem zero_row : Try.zeroCells80 = (rowOf false fun _ => false).toArray := by kernel_rfl
theorem RBits.of_row {w : World} {b : Nat} {any : Bool} {x : UInt8 → Bool} (h : w.heap[b]? = some (.cells (rowOf any x).toArray 80 (0, 0))) : RBits w b any x :=
  ⟨_, h, by simp [rowOf_length], by simp [rowOf_zero], fun c => by rw [List.getElem?_toArray]; exact rowOf_succ any x c⟩

/-- A whole block stored anew, told by what it is then. -/
theorem run_store_block {P : Program} (w : World) (g : Nat) (t : TypeId) (old : Array Value) (cs : List Value) (hg : w.heap[g]? = some (.cells old t (0, 0))) (hs : old.size = cs.length) (h1 : ∀ v ∈ cs, v.oneCell' = true) :
    ∃ w', (storeCells ⟨g, 0, none⟩ cs).run P w = .ok () w' ∧ w'.heap[g]? = some (.cells cs.toArray t (0, 0)) ∧ Chg [g] w w' := by
  have h := run_storeCells_from (P := P) g t cs 0 old w hg (by omega) h1
  refine ⟨_, h, ?_, ⟨rfl, rfl, rfl, by simp [World.setRow], fun k hk hm => setRow_other w g k _ (by simpa using hm)⟩⟩
  rw [List.take_zero, List.nil_append]
  exact setRow_heap w g old _ t (0, 0) hg
/-- A whole block loaded. -/
theorem run_load_block {P : Program} (w : World) (g : Nat) (t : TypeId) (cs : List Value) (hg : w.heap[g]? = some (.cells cs.toArray t (0, 0))) (n : Nat) (hn : cs.length = n) :
    (loadCells ⟨g, 0, none⟩ n).run P w = .ok cs.toArray w := by
  subst hn
  refine run_loadCells_list w _ cs (fun j v hv => ?_)
  have ha : (⟨g, 0, none⟩ : Addr).add j = ⟨g, j, none⟩ := by unfold Addr.add; split <;> simp_all
  rw [ha]
  simp [World.cell?, hg, hv]

theorem wpList_store_block {P : Program} {ops : Array Oper} {rest : List Oper} {o : Oper} {a : Act} {w : World} {Q : Exit → Act → World → Prop} (hgd : o.guard = none)
    (ty : TypeId) (x y : Operand) (ho : o.op = .store ty x y) (g : Nat) (cs : List Value) (hx : a.eval x = .pointer (some ⟨g, 0, none⟩))
    (hy : a.eval y = .agg cs.toArray) (t : TypeId) (old : Array Value) (hg : w.heap[g]? = some (.cells old t (0, 0))) (hi : (P.info? ty).map (·.size) = some cs.length)
    (hold : old.size = cs.length) (h1 : ∀ v ∈ cs, v.oneCell' = true)
    (h : ∀ w', w'.heap[g]? = some (.cells cs.toArray t (0, 0)) → Chg [g] w w' → wpList P ops Q rest (a.put o.dst undef) w') : wpList P ops Q (o :: rest) a w := by
  refine wpList_store_row hgd ty x y ho g cs.toArray hx hy t old hg (by rw [hi]; simp) (by simpa using hold) (by simpa using h1) ?_
  exact h _ (setRow_heap w g old _ t (0, 0) hg) ⟨rfl, rfl, rfl, by simp [World.setRow], fun k hk hm => setRow_other w g k _ (by simpa using hm)⟩
theorem Try.thing_size : (Try.prog.info? 80).map (·.size) = some 257 := by kernel_rfl
/-- Two new things: the result's cell, and the variable's, which is then laid anew. -/
theorem two_new (w : World) : ∃ w1, (storeCells ⟨w.heap.size + 1, 0, none⟩ Try.zeroCells80.toList).run Try.prog ((w.alloc (.cells Try.zeroCells80 80)).alloc (.cells Try.zeroCells80 80)) = .ok () w1 ∧
    RBits w1 (w.heap.size + 1) false (fun _ => false) ∧ RBits w1 w.heap.size false (fun _ => false) ∧ Chg [] w w1 := by
  obtain ⟨w1, hw1, hb1, hc1⟩ := run_store_block (P := Try.prog) ((w.alloc (.cells Try.zeroCells80 80)).alloc (.cells Try.zeroCells80 80)) (w.heap.size + 1) 80 Try.zeroCells80 Try.zeroCells80.toList
    (by have := blk_new (w.alloc (.cells Try.zeroCells80 80)) (.cells Try.zeroCells80 80); rw [show (w.alloc (.cells Try.zeroCells80 80)).heap.size = w.heap.size + 1 from Array.size_push ..] at this; exact this)
    (by simp) (by rw [zero_row]; intro v hv; exact rowOf_one _ _ v (by simpa using hv))
  have hC1 : Chg [] w w1 := (((Chg.refl [] w).alloc _).alloc _).then hc1 (by intro x hx; simp at hx; right; omega)
  have hB1 : RBits w1 (w.heap.size + 1) false (fun _ => false) := RBits.of_row (by rw [hb1, zero_row])
  have hR1 : RBits w1 w.heap.size false (fun _ => false) := by
    refine RBits.of_row (hc1.heap (k := w.heap.size) (blk_alloc ?_ _) (by simp))
    have := blk_new w (.cells Try.zeroCells80 80)
    rw [this, zero_row]

  exact ⟨w1, hw1, hB1, hR1, hC1⟩
def OneEnd (w : World) (any : Bool) (x : UInt8 → Bool) (e : Ending) (w' : World) : Prop := e = .returned (.agg (rowOf any x).toArray) ∧ Chg [] w w'
set_option maxRecDepth 100000 in
set_option maxHeartbeats 1000000 in
theorem all_ref (w : World) : Calls Try.prog 36 #[] w (OneEnd w false (fun _ => true)) := by
  obtain ⟨w1, hw1, hB1, hR1, hC1⟩ := two_new w
  go_enter Try.func36, Try.ntmps36
  go_wp2_with fail
  go_loopw [2] (fun i wr => ∃ (k : Nat), k ≤ 256 ∧ i = .int .i64 k ∧ RBits wr (w.heap.size + 1) false (fun c => decide (c.toNat < k)) ∧ RBits wr w.heap.size false (fun _ => false) ∧ Chg [] w wr) (fun i _ => 256 - (intOf i).toNat)
  case atStart => exact ⟨0, by omega, rfl, hB1.congr (fun c => by simp), hR1, hC1⟩
  case round =>
    obtain ⟨k, hk, rfl, hB, hR, hC⟩ := hrel
    by_cases hlt : k < 256
    · obtain ⟨cz, hcz⟩ : ∃ cz : UInt8, cz.toNat = k := ⟨UInt8.ofNat k, by simp; omega⟩
      subst hcz
      have hcell := hB.cell cz
      have hfr := hB.frozen cz
      have hput := (hB.put cz).congr (y := fun z => decide (z.toNat < cz.toNat + 1)) (fun z => by
        rw [Bool.eq_iff_iff]; simp only [Bool.or_eq_true, beq_iff_eq, decide_eq_true_eq]
        constructor
        · rintro (h | h)
          · subst h; omega
          · omega
        · intro h
          by_cases e : z.toNat = cz.toNat
          · exact .inl (UInt8.toNat_inj.1 e.symm)
          · exact .inr (by omega))
      have hRp : RBits (wr.setCell ⟨w.heap.size + 1, 1 + cz.toNat, none⟩ (.bool true)) w.heap.size false (fun _ => false) := hR.chg ((Chg.refl [w.heap.size + 1] wr).setCell (.inl (by simp)) _) (by simp)
      have hCp : Chg [] w (wr.setCell ⟨w.heap.size + 1, 1 + cz.toNat, none⟩ (.bool true)) := hC.setCell (.inr (by simp)) _
      replace hput := Lib.hid hput
      replace hCp := Lib.hid hCp
      replace hRp := Lib.hid hRp
      clear hB hC hR
      go_wp2_with fail
      go_roundw
      case rel => exact ⟨cz.toNat + 1, by omega, by go_num, hput.out, hRp.out, hCp.out⟩
      case measure => simp [intOf]; omega
    · obtain rfl : k = 256 := by omega
      have hrow := (hB.congr (y := fun _ => true) (fun c => by have := c.toNat_lt; simp; omega)).row
      have hR0 := hR.row
      have hn : (rowOf false fun _ => true).length = 257 := rowOf_length _ _
      have hn0 : (rowOf false fun _ => false).length = 257 := rowOf_length _ _
      have hone : ∀ v ∈ rowOf false (fun _ => true), v.oneCell' = true := rowOf_one _ _
      have hne : w.heap.size + 1 ≠ w.heap.size := by omega
      clear hB hR
      replace hrow := Lib.hid hrow
      replace hR0 := Lib.hid hR0
      replace hone := Lib.hid hone
      replace hn := Lib.hid hn
      replace hn0 := Lib.hid hn0
      replace hC := Lib.hid hC
      go_wp2_with (refine wpList_load_row (o := ⟨some 11, _, _, _, _, _⟩) rfl 80 (.tmp 1) rfl (w.heap.size + 1) rfl 80 _ (0, 0) _ hrow.out Try.underlying80 rfl (Try.thing_size.trans (by simp [hn.out])) ?_; refine wpList_store_block rfl 80 (.tmp 0) (.tmp 11) rfl w.heap.size (rowOf false fun _ => true) rfl rfl 80 _ hR0.out (Try.thing_size.trans (by rw [hn.out])) (by simp [hn.out, hn0.out]) hone.out ?_)
      intro w2 hb2 hc2
      have hC2 := hC.out.then hc2 (by intro x hx; simp at hx; right; omega)
      replace hC2 := Lib.hid hC2
      replace hb2 := Lib.hid hb2
      clear hc2
      go_wp2_with fail
      refine bodyPost_ret (v := .agg (rowOf false fun _ => true).toArray) ?_ rfl ⟨rfl, hC2.out⟩
      exact results_cell_row rfl _ _ _ 80 _ (0, 0) _ rfl hb2.out Try.underlying80 rfl (Try.thing_size.trans (by simp [hn.out]))
set_option maxRecDepth 100000 in
set_option maxHeartbeats 2000000 in
theorem set_ref (s : ByteArray) (hs : s.size ≤ 1024) (w : World) : Calls Try.prog 37 #[.string s] w (OneEnd w false (setHas s.data.toList)) := by
  obtain ⟨w1, hw1, hB1, hR1, hC1⟩ := two_new w
  obtain ⟨l, hl⟩ : ∃ l, l = s.data.toList := ⟨_, rfl⟩
  have hls : l.length = s.size := by rw [hl, Array.length_toList]; rfl
  have hby : ∀ i (h : i < s.size), l[i]? = some (s[i]'h) := fun i h => by rw [hl]; exact byte_at s i h
  rw [← hl]
  replace hls := Lib.hid hls
  replace hby := Lib.hid hby
  clear hl
  go_enter Try.func37, Try.ntmps37
  go_wp2_with fail
  go_loopw [4] (fun i wr => ∃ (k : Nat) (x : UInt8 → Bool), k ≤ s.size ∧ i = .int .i64 k ∧ RBits wr (w.heap.size + 1) false x ∧ RBits wr w.heap.size false (fun _ => false) ∧ Hid (∀ c, (x c || setHas (l.drop k) c) = setHas l c) ∧ Chg [] w wr) (fun i _ => s.size - (intOf i).toNat)
  case atStart => exact ⟨0, _, by omega, rfl, hB1, hR1, (show ∀ c, _ by intro c; simp), hC1⟩
  case round =>
    obtain ⟨k, x, hk, rfl, hB, hR, hx, hC⟩ := hrel
    by_cases hlt : k < s.size
    · obtain ⟨a, ha⟩ : ∃ a, a = s[k]'hlt := ⟨_, rfl⟩
      have hla := drop_at ((hby.out k hlt).trans (by rw [← ha]))
      have ha' := ha.symm
      have hcell := hB.cell a
      have hfr := hB.frozen a
      have hput := hB.put a
      have hCp : Chg [] w (wr.setCell ⟨w.heap.size + 1, 1 + a.toNat, none⟩ (.bool true)) := hC.setCell (.inr (by simp)) _
      have hRp : RBits (wr.setCell ⟨w.heap.size + 1, 1 + a.toNat, none⟩ (.bool true)) w.heap.size false (fun _ => false) := hR.chg ((Chg.refl [w.heap.size + 1] wr).setCell (.inl (by simp)) _) (by simp)
      have h256 : (a.toNat : Int) < 256 := by have := a.toNat_lt; omega
      have h0 : (0 : Int) ≤ a.toNat := by omega
      by_cases hr : k + 2 < s.size ∧ ∃ h, s[k + 1]'h = 45
      · obtain ⟨hr1, hr2, hr3⟩ := hr
        obtain ⟨d, hd⟩ : ∃ d, d = s[k + 2]'hr1 := ⟨_, rfl⟩
        have h1 := drop_at ((hby.out (k + 1) (by omega)).trans (by rw [hr3]))
        have h2 := drop_at ((hby.out (k + 2) (by omega)).trans (by rw [← hd]))
        have hrange : ∀ c, (setHas (l.drop k) c) = ((decide (a ≤ c) && decide (c ≤ d)) || setHas (l.drop (k + 3)) c) := by
          intro c
          rw [hla, h1, h2]; exact setHas_range a d c _
        have hx' : Hid (∀ c, ((x c || (decide (a ≤ c) && decide (c ≤ d))) || setHas (l.drop (k + 3)) c) = setHas l c) := by
          show ∀ c, _
          intro c
          rw [← hx.out c, hrange c]
          cases x c <;> cases (decide (a ≤ c) && decide (c ≤ d)) <;> cases setHas (l.drop (k + 3)) c <;> rfl
        have hd' := hd.symm
        have hb : (((s[k + 1]'(by omega)).toNat : Int) == 45) = true := by rw [hr3]; rfl
        have hd256 : (d.toNat : Int) < 256 := by have := d.toNat_lt; omega
        have hd0 : (0 : Int) ≤ d.toNat := by omega
        clear hx hrange h1 h2 hla ha hd hr3 hput hCp hRp hcell hfr
        obtain ⟨wo, rfl⟩ : ∃ wo : World, wo = wr := ⟨_, rfl⟩
        go_wp2_with fail
        go_loopw [5] (fun i wx => ∃ (c : Nat), a.toNat ≤ c ∧ (c ≤ a.toNat ∨ c ≤ d.toNat + 1) ∧ i = .int .i64 c ∧ RBits wx (w.heap.size + 1) false (fun z => x z || (decide (a ≤ z) && decide (z.toNat < c))) ∧ RBits wx w.heap.size false (fun _ => false) ∧ Chg [] w wx) (fun i _ => 257 - (intOf i).toNat)
        case atStart =>
          refine ⟨a.toNat, Nat.le_refl _, .inl (Nat.le_refl _), rfl, hB.congr (fun z => ?_), hR, hC⟩
          rw [Bool.eq_iff_iff]; simp [UInt8.le_iff_toNat_le]; omega
        case round =>
          obtain ⟨c, hc1, hc2, rfl, hB, hR, hC⟩ := hrel
          by_cases hcd : c ≤ d.toNat
          · obtain ⟨cz, hcz⟩ : ∃ cz : UInt8, cz.toNat = c := ⟨UInt8.ofNat c, by simp; omega⟩
            subst hcz
            have hcell := hB.cell cz
            have hfr := hB.frozen cz
            have hput := (hB.put cz).congr (y := fun z => x z || (decide (a ≤ z) && decide (z.toNat < cz.toNat + 1))) (fun z => by
              rw [Bool.eq_iff_iff]; simp only [Bool.or_eq_true, Bool.and_eq_true, beq_iff_eq, decide_eq_true_eq, UInt8.le_iff_toNat_le]
              constructor
              · rintro (h | h | h)
                · subst h; exact .inr ⟨hc1, by omega⟩
                · exact .inl h
                · exact .inr ⟨h.1, by omega⟩
              · rintro (h | h)
                · exact .inr (.inl h)
                · by_cases e : z.toNat = cz.toNat
                  · exact .inl (UInt8.toNat_inj.1 e.symm)
                  · exact .inr (.inr ⟨h.1, by omega⟩))
            have hCp : Chg [] w (wr.setCell ⟨w.heap.size + 1, 1 + cz.toNat, none⟩ (.bool true)) := hC.setCell (.inr (by simp)) _
            have hRp : RBits (wr.setCell ⟨w.heap.size + 1, 1 + cz.toNat, none⟩ (.bool true)) w.heap.size false (fun _ => false) := hR.chg ((Chg.refl [w.heap.size + 1] wr).setCell (.inl (by simp)) _) (by simp)
            have hz256 : (cz.toNat : Int) < 256 := by omega
            have hz0 : (0 : Int) ≤ cz.toNat := by omega
            replace hput := Lib.hid hput
            replace hCp := Lib.hid hCp
            replace hRp := Lib.hid hRp
            clear hB hC hR
            go_wp2_with fail
            go_roundw
            case rel => exact ⟨cz.toNat + 1, by omega, by omega, by go_num, hput.out, hRp.out, hCp.out⟩
            case measure => simp [intOf]; omega
          · have hfin : RBits wr (w.heap.size + 1) false (fun z => x z || (decide (a ≤ z) && decide (z ≤ d))) := hB.congr (fun z => by
              rw [Bool.eq_iff_iff]; simp only [Bool.or_eq_true, Bool.and_eq_true, decide_eq_true_eq, UInt8.le_iff_toNat_le]
              constructor
              · rintro (h | h)
                · exact .inl h
                · exact .inr ⟨h.1, by omega⟩
              · rintro (h | h)
                · exact .inl h
                · exact .inr ⟨h.1, by omega⟩)
            replace hfin := Lib.hid hfin
            clear hB
            go_wp2_with fail
            go_roundw
            case rel => exact ⟨k + 3, _, by omega, by go_num, hfin.out, hR, hx', hC⟩
            case measure => simp [intOf]; omega
      · have hone : ∀ c, (setHas (l.drop k) c) = ((a == c) || setHas (l.drop (k + 1)) c) := by
          intro c
          rw [hla]
          refine setHas_one a c _ (fun d r' e => hr ?_)
          have h1 : (l.drop (k + 1)).length ≥ 2 := by rw [e]; simp
          have h2 := hls.out
          simp only [List.length_drop] at h1
          have h3 := drop_at (hby.out (k + 1) (by omega))
          rw [h3] at e
          exact ⟨by omega, by omega, by simpa using (List.cons.inj e).1⟩
        have hx' : Hid (∀ c, ((a == c || x c) || setHas (l.drop (k + 1)) c) = setHas l c) := by
          show ∀ c, _
          intro c
          rw [← hx.out c, hone c]
          cases (a == c) <;> cases x c <;> cases setHas (l.drop (k + 1)) c <;> rfl
        replace hput := Lib.hid hput
        replace hCp := Lib.hid hCp
        replace hRp := Lib.hid hRp
        clear hB hC hR hx hone hla ha
        by_cases hr1 : k + 2 < s.size
        · have h45 : ((s[k + 1]'(by omega)).toNat : Int) ≠ 45 := fun e => hr ⟨hr1, by omega, UInt8.toNat_inj.1 (by simpa using (by omega : (s[k + 1]'(by omega)).toNat = 45))⟩
          clear hr
          have hb : (((s[k + 1]'(by omega)).toNat : Int) == 45) = false := by simpa using h45
          clear h45
          go_wp2_with fail
          go_roundw
          case rel => exact ⟨k + 1, _, by omega, by go_num, hput.out, hRp.out, hx', hCp.out⟩
          case measure => simp [intOf]; omega
        · clear hr
          go_wp2_with fail
          go_roundw
          case rel => exact ⟨k + 1, _, by omega, by go_num, hput.out, hRp.out, hx', hCp.out⟩
          case measure => simp [intOf]; omega
    · have hks : k = s.size := by omega
      subst hks
      have hfin : RBits wr (w.heap.size + 1) false (setHas l) := hB.congr (fun c => by
        have := hx.out c
        rw [List.drop_eq_nil_of_le (by rw [hls.out]; omega)] at this
        simpa [setHas] using this)
      have hrow := Lib.hid hfin.row
      have hR0 := Lib.hid hR.row
      have hn : Hid ((rowOf false (setHas l)).length = 257) := rowOf_length _ _
      have hn0 : Hid ((rowOf false fun _ => false).length = 257) := rowOf_length _ _
      have hone := Lib.hid (rowOf_one false (setHas l))
      clear hB hx hfin hR
      replace hC := Lib.hid hC
      go_wp2_with (refine wpList_load_row (o := ⟨some 48, _, _, _, _, _⟩) rfl 80 (.tmp 3) rfl (w.heap.size + 1) rfl 80 _ (0, 0) _ hrow.out Try.underlying80 rfl (Try.thing_size.trans (by simp [hn.out])) ?_; refine wpList_store_block rfl 80 (.tmp 2) (.tmp 48) rfl w.heap.size (rowOf false (setHas l)) rfl rfl 80 _ hR0.out (Try.thing_size.trans (by rw [hn.out])) (by simp [hn.out, hn0.out]) hone.out ?_)
      intro w2 hb2 hc2
      have hC2 := hC.out.then hc2 (by intro x hx; simp at hx; right; omega)
      replace hC2 := Lib.hid hC2
      replace hb2 := Lib.hid hb2
      clear hc2
      go_wp2_with fail
      refine bodyPost_ret (v := .agg (rowOf false (setHas l)).toArray) ?_ rfl ⟨rfl, hC2.out⟩
      exact results_cell_row rfl _ _ _ 80 _ (0, 0) _ rfl hb2.out Try.underlying80 rfl (Try.thing_size.trans (by simp [hn.out]))
end Go.Proofs.Ytojgdmpnbgikeaa
namespace Go.Proofs.Ytojgdmpnbgikeaa
open Go.RowKit Glob
def thRow (t : Th) : List Value := rowOf t.isAny t.has
def rows (ths : List Th) : List Value := ths.flatMap thRow
theorem rows_snoc (ths : List Th) (t : Th) : rows (ths ++ [t]) = rows ths ++ thRow t := by simp [rows]
theorem new_thing (w : World) : ∃ w1, (storeCells ⟨w.heap.size, 0, none⟩ Try.zeroCells80.toList).run Try.prog (w.alloc (.cells Try.zeroCells80 80)) = .ok () w1 ∧ RBits w1 w.heap.size false (fun _ => false) ∧ Chg [] w w1 := by
  obtain ⟨w1, h1, h2, h3⟩ := run_store_block (P := Try.prog) (w.alloc (.cells Try.zeroCells80 80)) w.heap.size 80 Try.zeroCells80 Try.zeroCells80.toList (blk_new _ _) (by simp) (by rw [zero_row]; intro v hv; exact rowOf_one _ _ v (by simpa using hv))
  refine ⟨w1, h1, RBits.of_row (by rw [h2, zero_row]), ((Chg.refl [] w).alloc _).then h3 (by intro x hx; simp at hx; right; omega)⟩
theorem Try.info_thing : (Try.prog.info? 80).map (fun i => (i.zero, i.size, i.bytes)) = some (some (.agg Try.zeroCells80), 257, 257) := by kernel_rfl
theorem build_any (w : World) : (Instr.build 80 #[(0, .bool true)]).run Try.prog w = .ok (.agg (thRow .any).toArray) w := run_build w 80 _ _ (by kernel_rfl)
/-- What the reference's `Things` tells. -/
def RefEnd (w : World) (l : List UInt8) (e : Ending) (w' : World) : Prop :=
  Chg [] w w' ∧
  ((l.length > 1024 ∧ e = .returned (.tuple #[.slice none 0 0, .int .i64 6]))
  ∨ (l.length ≤ 1024 ∧ parse l = none ∧ e = .returned (.tuple #[.slice none 0 0, .int .i64 4]))
  ∨ (l.length ≤ 1024 ∧ ∃ ths A c, parse l = some ths ∧ e = .returned (.tuple #[.slice A ths.length c, .int .i64 0]) ∧ Sl w' 257 (.slice A ths.length c) ths.length (rows ths) ∧ ths.length ≤ l.length))
/-- One thing more. -/
theorem ref_step {w W w1 : World} {n n' c c' : Nat} {A A' : Option Addr} {ths : List Th} {t : Th} (hC : Chg [] w W) (hO : W.ownsRow w.heap.size 80 257 (.slice A n c) n (rows ths))
    (hO' : w1.ownsRow w.heap.size 80 257 (.slice A' n' c') n' (rows ths ++ thRow t)) (hCh : Chg (Value.slice A n c).ownBlock.toList W w1) : w1.ownsRow w.heap.size 80 257 (.slice A' n' c') n' (rows (ths ++ [t])) ∧ Chg [] w w1 :=
  ⟨by rw [rows_snoc]; exact hO', hC.then hCh (fun k hk => .inr (hO.lt k (by simpa using hk)).1)⟩
theorem wpList_move {P : Program} {ops : Array Oper} {rest : List Oper} {o : Oper} {a : Act} {w : World} {Q : Exit → Act → World → Prop} (hg : o.guard = none) (x : Operand) (ho : o.op = .move x)
    (h : wpList P ops Q rest (a.put o.dst (a.eval x)) w) : wpList P ops Q (o :: rest) a w := by
  refine wpList_plain hg fun K hK => ?_
  unfold Oper.wp execOp
  simp [ho, Result.andThen]
  exact hK _ _ h
theorem lit_put {w2 : World} {g : Nat} {a : UInt8} (h : RBits w2 g false (fun _ => false)) : (w2.setCell ⟨g, 1 + a.toNat, none⟩ (.bool true)).heap[g]? = some (.cells (thRow (.lit a)).toArray 80 (0, 0)) :=
  ((h.put a).congr (y := (Th.lit a).has) (fun c => by rw [Bool.or_false]; exact Bool.beq_comm)).row
theorem Chg.trans' {a b c : World} (h : Chg [] a b) (k : Chg [a.heap.size] b c) : Chg [] a c := h.then k (by intro x hx; simp at hx; right; omega)
set_option maxRecDepth 100000 in
set_option maxHeartbeats 4000000 in
theorem things_ref (s : ByteArray) (hs : s.size ≤ 9223372036854775807) (w : World) : Calls Try.prog 23 #[.string s] w (RefEnd w s.data.toList) := by
  obtain ⟨l, hl⟩ : ∃ l, l = s.data.toList := ⟨_, rfl⟩
  have hls : l.length = s.size := by rw [hl, Array.length_toList]; rfl
  have hby : ∀ i (h : i < s.size), l[i]? = some (s[i]'h) := fun i h => by rw [hl]; exact byte_at s i h
  rw [← hl]
  replace hl := Lib.hid hl
  replace hls := Lib.hid hls
  replace hby := Lib.hid hby
  by_cases hmost : s.size ≤ 1024
  case neg =>
    go_enter Try.func23, Try.ntmps23
    go_wp2
    go_ret2
    exact ⟨Chg.refl _ _, .inl ⟨by rw [hls.out]; omega, rfl⟩⟩
  go_enter Try.func23, Try.ntmps23
  go_wp2_with fail
  go_loopw [4, 5] (fun v i wr => ∃ (k n : Nat) (A : Option Addr) (c : Nat) (ths : List Th), k ≤ s.size ∧ n ≤ k ∧ i = .int .i64 k ∧ v = .slice A n c ∧ wr.ownsRow w.heap.size 80 257 (.slice A n c) n (rows ths) ∧ ths.length = n ∧ Hid (parse l = (parse (l.drop k)).map (ths ++ ·)) ∧ Chg [] w wr) (fun _ i _ => s.size - (intOf i).toNat)
  case atStart => exact ⟨0, 0, none, 0, [], by omega, by omega, rfl, rfl, ⟨rfl, .inl ⟨rfl, rfl⟩⟩, rfl, (show parse l = _ by simp), Chg.refl _ _⟩
  case round =>
    obtain ⟨k, n, A, c, ths, hk, hnk, rfl, rfl, hO, hlen, hp, hC⟩ := hrel
    by_cases hlt : k < s.size
    · obtain ⟨a, ha⟩ : ∃ a, a = s[k]'hlt := ⟨_, rfl⟩
      have hla := drop_at ((hby.out k hlt).trans (by rw [← ha]))
      have ha' := ha.symm
      clear ha
      replace hO := Lib.hid hO
      replace hC := Lib.hid hC
      by_cases h1 : a = 42
      · subst h1
        have hp' := parse_step hp.out (by rw [hla]; exact parse_star _)
        clear hla hp
        replace hp' : Hid _ := Lib.hid hp'
        have hbd := fun w => build_any w
        have hone := Lib.hid (rowOf_one Th.any.isAny Th.any.has)
        go_wp2_with (refine wpList_one_more rfl rfl 58 80 (.tmp 20) (.tmp 19) 21 rfl rfl w.heap.size (.agg Try.zeroCells80) 257 257 Try.underlying58 Try.info_thing (by kernel_rfl) (by decide) (by decide) (thRow .any) (rowOf_length _ _) hone.out _ n (rows ths) hO.out rfl rfl rfl (by omega) (by decide) hC.out.size ?_)
        intro A' c' w1 hO' hCh
        obtain ⟨hO2, hC2⟩ := ref_step hC.out hO.out hO' hCh
        clear hCh hO' hbd hone
        replace hO2 := Lib.hid hO2
        replace hC2 := Lib.hid hC2
        clear hO hC
        go_wp2_with fail
        go_roundw
        case rel => exact ⟨k + 1, n + 1, A', c', _, by omega, by omega, by go_num, rfl, hO2.out, by simp [hlen], hp', hC2.out⟩
        case measure => simp [intOf]; omega
      by_cases h2 : a = 63
      · subst h2
        have hp' := parse_step hp.out (by rw [hla]; exact parse_one _)
        clear hla hp h1
        replace hp' : Hid _ := Lib.hid hp'
        have hone := Lib.hid (rowOf_one Th.one.isAny Th.one.has)
        go_wp2_with fail
        refine (all_ref _).mono ?_
        rintro e w2 ⟨rfl, hCa⟩
        have hO2 := Lib.hid (own_chg hO.out hCa (by simp))
        have hC2 := Lib.hid (hC.out.trans hCa)
        clear hO hC hCa
        go_wp2_with (refine wpList_one_more rfl rfl 58 80 (.tmp 28) (.tmp 27) 29 rfl rfl w.heap.size (.agg Try.zeroCells80) 257 257 Try.underlying58 Try.info_thing (by kernel_rfl) (by decide) (by decide) (thRow .one) (rowOf_length _ _) hone.out _ n (rows ths) hO2.out rfl rfl rfl (by omega) (by decide) hC2.out.size ?_)
        intro A' c' w1 hO' hCh
        obtain ⟨hO3, hC3⟩ := ref_step hC2.out hO2.out hO' hCh
        clear hCh hO' hone
        replace hO3 := Lib.hid hO3
        replace hC3 := Lib.hid hC3
        clear hO2 hC2
        go_wp2_with fail
        go_roundw
        case rel => exact ⟨k + 1, n + 1, A', c', _, by omega, by omega, by go_num, rfl, hO3.out, by simp [hlen], hp', hC3.out⟩
        case measure => simp [intOf]; omega
      replace hla := Lib.hid hla
      by_cases h5 : a = 91
      · subst h5
        clear h1 h2
        have hpn : (l.drop (k + 2)).findIdx? (· == 93) = none → parse l = none := fun h => by
          rw [hp.out, hla.out, parse_set_none _ (by rw [List.drop_drop]; exact h)]; rfl
        replace hpn := Lib.hid hpn
        obtain ⟨wo, rfl⟩ : ∃ wo : World, wo = wr := ⟨_, rfl⟩
        go_wp2_with fail
        go_loopw [6] (fun i wx => ∃ (m : Nat), (m = 0 ∨ k + 2 + m ≤ s.size) ∧ i = .int .i64 (k + 2 + m : Nat) ∧ Hid (∀ j b, j < m → (l.drop (k + 2))[j]? = some b → b ≠ 93) ∧ wo = wx) (fun i _ => s.size + 3 - (intOf i).toNat)
        case atStart => exact ⟨0, .inl rfl, by go_num, (show ∀ _ _, _ from fun j b hj => absurd hj (by omega)), rfl⟩
        case round =>
          obtain ⟨m, hm, rfl, hno, rfl⟩ := hrel
          by_cases hc : k + 2 + m < s.size
          · obtain ⟨b, hb⟩ : ∃ b, b = s[k + 2 + m]'hc := ⟨_, rfl⟩
            have hlb : (l.drop (k + 2))[m]? = some b := by rw [List.getElem?_drop, hby.out _ hc, ← hb]
            have hb' := hb.symm
            clear hb
            by_cases h93 : b = 93
            · subst h93
              have hidx : (l.drop (k + 2)).findIdx? (· == 93) = some m := by
                rw [List.findIdx?_eq_some_iff_getElem]
                obtain ⟨h1, h2⟩ := List.getElem?_eq_some_iff.1 hlb
                refine ⟨h1, by rw [h2]; rfl, fun j hj => ?_⟩
                have := hno.out j _ hj (List.getElem?_eq_getElem (by omega))
                simpa using this
              have hp' := parse_step hp.out (by rw [hla.out]; exact parse_set_some _ m (by rw [List.drop_drop]; exact hidx))
              rw [List.drop_drop, show k + 1 + (m + 2) = k + m + 3 by omega] at hp'
              have hle : (s.extract (k + 1) (k + 2 + m)).data.toList = (l.drop (k + 1)).take (m + 1) := by
                rw [extract_list, ← hl.out, List.drop_take, show k + 2 + m - (k + 1) = m + 1 by omega]
              replace hp' : Hid _ := Lib.hid hp'
              replace hle := Lib.hid hle
              clear hidx hpn hp hla hno hlb
              obtain ⟨X, hX⟩ : ∃ X, X = (l.drop (k + 1)).take (m + 1) := ⟨_, rfl⟩
              rw [← hX] at hle hp'
              clear hX
              have hone := Lib.hid (rowOf_one (Th.set X).isAny (Th.set X).has)
              go_wp2_with fail
              refine (set_ref _ (by rw [ByteArray.size_extract]; omega) _).mono ?_
              rintro e w2 ⟨rfl, hCa⟩
              rw [hle.out]
              have hO2 := Lib.hid (own_chg hO.out hCa (by simp))
              have hC2 := Lib.hid (hC.out.trans hCa)
              clear hO hC hCa hle
              go_wp2_with (refine wpList_one_more rfl rfl 58 80 (.tmp 59) (.tmp 53) 60 rfl rfl w.heap.size (.agg Try.zeroCells80) 257 257 Try.underlying58 Try.info_thing (by kernel_rfl) (by decide) (by decide) (thRow (.set X)) (rowOf_length _ _) hone.out _ n (rows ths) hO2.out rfl rfl rfl (by omega) (by decide) hC2.out.size ?_)
              intro A' c' w1 hO' hCh
              obtain ⟨hO3, hC3⟩ := ref_step hC2.out hO2.out hO' hCh
              clear hCh hO' hone
              replace hO3 := Lib.hid hO3
              replace hC3 := Lib.hid hC3
              clear hO2 hC2
              go_wp2_with fail
              go_roundw
              case rel => exact ⟨k + m + 3, n + 1, A', c', _, by omega, by omega, by go_num, rfl, hO3.out, by simp [hlen], hp', hC3.out⟩
              case measure => simp [intOf]; omega
            · have hne := u8_ne (n := 93) h93
              have hno' : Hid (∀ j b, j < m + 1 → (l.drop (k + 2))[j]? = some b → b ≠ 93) := by
                intro j b' hj hjb
                by_cases e : j = m
                · subst e; rw [hlb] at hjb; cases hjb; exact h93
                · exact hno.out j b' (by omega) hjb
              clear hno hlb h93
              go_wp2_with fail
              go_roundw
              case rel => exact ⟨m + 1, .inr (by omega), by go_num, hno', by first | rfl | trivial⟩
              case measure => simp [intOf]; omega
          · have hfin := hpn.out (by
              rw [List.findIdx?_eq_none_iff]
              intro x hx
              obtain ⟨j, hj, rfl⟩ := List.mem_iff_getElem.1 hx
              have h3 := hj
              rw [List.length_drop, hls.out] at h3
              have := hno.out j _ (by omega) (List.getElem?_eq_getElem hj)
              simpa using this)
            clear hpn hno hp hla
            go_wp2_with fail
            go_ret2
            exact ⟨hC.out, .inr (.inl ⟨by rw [hls.out]; omega, hfin, rfl⟩)⟩
      by_cases h6 : a = 92
      · subst h6
        clear h1 h2 h5
        by_cases hc : k + 1 < s.size
        · obtain ⟨d, hd⟩ : ∃ d, d = s[k + 1]'hc := ⟨_, rfl⟩
          have h1 := drop_at ((hby.out (k + 1) hc).trans (by rw [← hd]))
          have hp' := parse_step hp.out (by rw [hla.out, h1]; exact parse_esc _ _)
          replace hp' : Hid _ := Lib.hid hp'
          have hd' := hd.symm
          clear hd hla h1 hp
          obtain ⟨w2, hw2, hB2, hCn⟩ := new_thing wr
          have hcell := hB2.cell d
          have hfr := hB2.frozen d
          have hrow := Lib.hid (lit_put (a := d) hB2)
          have hCp := hCn.trans' (((Chg.refl [wr.heap.size] w2).setCell (p := ⟨wr.heap.size, 1 + d.toNat, none⟩) (.inl (by simp)) (.bool true)))
          have h256 : (d.toNat : Int) < 256 := by have := d.toNat_lt; omega
          have h0 : (0 : Int) ≤ d.toNat := by omega
          have hone := Lib.hid (rowOf_one (Th.lit d).isAny (Th.lit d).has)
          have hO2 := Lib.hid (own_chg hO.out hCp (by simp))
          have hC2 := Lib.hid (hC.out.trans hCp)
          clear hO hC hCp hB2 hCn
          go_upto_region 24 with fail
          go_step
          refine wpList_move rfl (.tmp 4) rfl ?_
          refine wpList_load_row (o := ⟨some 80, _, _, _, _, _⟩) rfl 80 (.tmp 7) rfl wr.heap.size rfl 80 _ (0, 0) _ hrow.out Try.underlying80 rfl (Try.thing_size.trans (by simp [thRow, rowOf_length])) ?_
          refine wpList_one_more rfl rfl 58 80 (.tmp 80) (.tmp 79) 81 rfl rfl w.heap.size (.agg Try.zeroCells80) 257 257 Try.underlying58 Try.info_thing (by kernel_rfl) (by decide) (by decide) (thRow (.lit d)) (rowOf_length _ _) hone.out _ n (rows ths) hO2.out rfl rfl rfl (by omega) (by decide) hC2.out.size ?_
          intro A' c' w1 hO' hCh
          obtain ⟨hO3, hC3⟩ := ref_step hC2.out hO2.out hO' hCh
          clear hCh hO' hone hrow hcell hfr hw2
          replace hO3 := Lib.hid hO3
          replace hC3 := Lib.hid hC3
          clear hO2 hC2
          go_wp2_with fail
          go_roundw
          case rel => exact ⟨k + 2, n + 1, A', c', _, by omega, by omega, by go_num, rfl, hO3.out, by simp [hlen], hp', hC3.out⟩
          case measure => simp [intOf]; omega
        · have hfin : parse l = none := by
            rw [hp.out, hla.out, List.drop_eq_nil_of_le (by rw [hls.out]; omega), parse_esc_nil]; rfl
          clear hp hla
          go_wp2_with fail
          go_ret2
          exact ⟨hC.out, .inr (.inl ⟨by rw [hls.out]; omega, hfin, rfl⟩)⟩
      have hp' := parse_step hp.out (by rw [hla.out]; exact parse_lit a _ h1 h2 h5 h6)
      replace hp' : Hid _ := Lib.hid hp'
      have e1 : ((a.toNat : Int) == 42) = false := u8_ne h1
      have e2 : ((a.toNat : Int) == 63) = false := u8_ne h2
      have e3 : ((a.toNat : Int) == 91) = false := u8_ne h5
      have e4 : ((a.toNat : Int) == 92) = false := u8_ne h6
      clear h1 h2 h5 h6 hp hla
      obtain ⟨w2, hw2, hB2, hCn⟩ := new_thing wr
      have hcell := hB2.cell a
      have hfr := hB2.frozen a
      have hrow := Lib.hid (lit_put (a := a) hB2)
      have hCp := hCn.trans' (((Chg.refl [wr.heap.size] w2).setCell (p := ⟨wr.heap.size, 1 + a.toNat, none⟩) (.inl (by simp)) (.bool true)))
      have h256 : (a.toNat : Int) < 256 := by have := a.toNat_lt; omega
      have h0 : (0 : Int) ≤ a.toNat := by omega
      have hone := Lib.hid (rowOf_one (Th.lit a).isAny (Th.lit a).has)
      have hO2 := Lib.hid (own_chg hO.out hCp (by simp))
      have hC2 := Lib.hid (hC.out.trans hCp)
      clear hO hC hCp hB2 hCn
      go_upto_region 24 with fail
      go_step
      refine wpList_move rfl (.tmp 4) rfl ?_
      refine wpList_load_row (o := ⟨some 80, _, _, _, _, _⟩) rfl 80 (.tmp 7) rfl wr.heap.size rfl 80 _ (0, 0) _ hrow.out Try.underlying80 rfl (Try.thing_size.trans (by simp [thRow, rowOf_length])) ?_
      refine wpList_one_more rfl rfl 58 80 (.tmp 80) (.tmp 79) 81 rfl rfl w.heap.size (.agg Try.zeroCells80) 257 257 Try.underlying58 Try.info_thing (by kernel_rfl) (by decide) (by decide) (thRow (.lit a)) (rowOf_length _ _) hone.out _ n (rows ths) hO2.out rfl rfl rfl (by omega) (by decide) hC2.out.size ?_
      intro A' c' w1 hO' hCh
      obtain ⟨hO3, hC3⟩ := ref_step hC2.out hO2.out hO' hCh
      clear hCh hO' hone hrow hcell hfr hw2
      replace hO3 := Lib.hid hO3
      replace hC3 := Lib.hid hC3
      clear hO2 hC2
      go_wp2_with fail
      go_roundw
      case rel => exact ⟨k + 1, n + 1, A', c', _, by omega, by omega, by go_num, rfl, hO3.out, by simp [hlen], hp', hC3.out⟩
      case measure => simp [intOf]; omega
    · obtain rfl : k = s.size := by omega
      have hfin : parse l = some ths := by
        rw [hp.out, List.drop_eq_nil_of_le (by rw [hls.out]; omega), parse_nil]; simp
      subst hlen
      clear hp
      go_wp2_with fail
      go_ret2
      exact ⟨hC, .inr (.inr ⟨by rw [hls.out]; omega, ths, A, c, hfin, rfl, own_sl hO, by rw [hls.out]; omega⟩)⟩
end Go.Proofs.Ytojgdmpnbgikeaa
namespace Go.Proofs.Ytojgdmpnbgikeaa
open Go.RowKit Glob
theorem like_all' (t : List UInt8) : Like [.any] t = true := like_any_of_drop [] t t.length (by rw [List.drop_length]; exact like_nil_nil)
theorem like_snoc_any (a : List Th) (T : List UInt8) : Like (a ++ [.any]) T = true ↔ ∃ d, d ≤ T.length ∧ Like a (T.take d) = true := by
  rw [like_append]
  constructor
  · rintro ⟨d, hd, h1, h2⟩; exact ⟨d, hd, h1⟩
  · rintro ⟨d, hd, h1⟩; exact ⟨d, hd, h1, like_all' _⟩
theorem like_single {x : Th} (hx : x.isAny = false) (T : List UInt8) : Like [x] T = true ↔ ∃ c, T = [c] ∧ x.has c = true := by
  match T with
  | [] => rw [like_cons_nil hx]; simp
  | [c] => rw [like_cons_cons hx, like_nil_nil]; simp
  | c :: d :: r => rw [like_cons_cons hx, like_nil_cons]; simp
theorem like_snoc_byte {x : Th} (hx : x.isAny = false) (a : List Th) (T : List UInt8) (i : Nat) (c : UInt8) (hc : T[i]? = some c) : Like (a ++ [x]) (T.take (i + 1)) = (Like a (T.take i) && x.has c) := by
  have hi : i < T.length := (List.getElem?_eq_some_iff.1 hc).1
  have e : T.take (i + 1) = T.take i ++ [c] := by rw [List.take_add_one, hc]; rfl
  rw [e, Bool.eq_iff_iff, like_append, Bool.and_eq_true]
  have hl : (T.take i).length = i := by simp; omega
  constructor
  · rintro ⟨d, hd, h1, h2⟩
    obtain ⟨c', h3, h4⟩ := (like_single hx _).1 h2
    have h5 := congrArg List.length h3
    simp only [List.length_drop, List.length_append, List.length_cons, List.length_nil, hl] at h5 hd
    obtain rfl : d = i := by omega
    rw [List.drop_append_of_le_length (by omega), List.drop_eq_nil_of_le (by omega), List.nil_append] at h3
    rw [List.take_append_of_le_length (by omega), List.take_of_length_le (by omega)] at h1
    cases h3
    exact ⟨h1, h4⟩
  · rintro ⟨h1, h2⟩
    refine ⟨i, by simp; omega, ?_, ?_⟩
    · rw [List.take_append_of_le_length (by omega), List.take_of_length_le (by omega)]; exact h1
    · rw [List.drop_append_of_le_length (by omega), List.drop_eq_nil_of_le (by omega), List.nil_append]; exact (like_single hx _).2 ⟨c, rfl, h2⟩
theorem like_snoc_nil {x : Th} (hx : x.isAny = false) (a : List Th) : Like (a ++ [x]) [] = false := by
  rw [Bool.eq_false_iff]; intro h
  obtain ⟨d, hd, h1, h2⟩ := (like_append a [x] []).1 h
  obtain ⟨c, h3, _⟩ := (like_single hx _).1 h2
  simp at h3
/-- A row of bools. -/
def RowB (w : World) (g m : Nat) (f : Nat → Bool) : Prop := ∃ cs, w.heap[g]? = some (.cells cs 4 (0, 0)) ∧ cs.size = m ∧ ∀ i, i < m → cs[i]? = some (.bool (f i))
theorem RowB.cell {w : World} {g m : Nat} {f : Nat → Bool} (h : RowB w g m f) {i : Nat} (hi : i < m) : w.cell? ⟨g, i, none⟩ = some (.bool (f i)) := by
  obtain ⟨cs, h1, h2, h3⟩ := h; simp [World.cell?, h1, h3 i hi]
theorem RowB.frozen {w : World} {g m : Nat} {f : Nat → Bool} (h : RowB w g m f) (i : Nat) : w.frozen? ⟨g, i, none⟩ = false := by
  obtain ⟨cs, h1, h2, h3⟩ := h; simp [World.frozen?, h1]
theorem RowB.put {w : World} {g m : Nat} {f f' : Nat → Bool} (h : RowB w g m f) (i : Nat) (b : Bool) (hf : ∀ j, j < m → f' j = if j = i then b else f j) : RowB (w.setCell ⟨g, i, none⟩ (.bool b)) g m f' := by
  obtain ⟨cs, h1, h2, h3⟩ := h
  refine ⟨_, blk_set h1 _ _, by simpa using h2, fun j hj => ?_⟩
  rw [Array.getElem?_setIfInBounds, hf j hj]
  by_cases e : i = j
  · subst e; rw [if_pos rfl, if_pos (by omega), if_pos rfl]
  · rw [if_neg e, if_neg (fun e' => e e'.symm), h3 j hj]
theorem RowB.chg {S : List Nat} {w w' : World} {g m : Nat} {f : Nat → Bool} (h : RowB w g m f) (hc : Chg S w w') (hg : g ∉ S) : RowB w' g m f := by
  obtain ⟨cs, h1, h2⟩ := h; exact ⟨cs, hc.heap h1 hg, h2⟩
theorem RowB.congr {w : World} {g m : Nat} {f f' : Nat → Bool} (h : RowB w g m f) (e : ∀ i, i < m → f i = f' i) : RowB w g m f' := by
  obtain ⟨cs, h1, h2, h3⟩ := h; exact ⟨cs, h1, h2, fun i hi => by rw [h3 i hi, e i hi]⟩
theorem RowB.lt {w : World} {g m : Nat} {f : Nat → Bool} (h : RowB w g m f) : g < w.heap.size := by
  obtain ⟨cs, h1, _⟩ := h; exact lt_heap h1
theorem rows_get (ths : List Th) : ∀ (k j : Nat) (x : Th), ths[k]? = some x → j < 257 → (rows ths)[k * 257 + j]? = (thRow x)[j]? := by
  induction ths with
  | nil => intro k j x h; simp at h
  | cons y r ih =>
    intro k j x h hj
    have hl : (thRow y).length = 257 := rowOf_length _ _
    have e : rows (y :: r) = thRow y ++ rows r := by simp [rows]
    rw [e]
    cases k with
    | zero => simp at h; subst h; rw [List.getElem?_append_left (by omega)]; simp
    | succ k =>
      simp at h
      rw [List.getElem?_append_right (by rw [hl]; omega), hl, show (k + 1) * 257 + j - 257 = k * 257 + j by omega]
      exact ih k j x h hj
/-- The things, as the walk reads them. -/
def ThsAt (w : World) (A : Option Addr) (ths : List Th) : Prop :=
  ∀ k x, ths[k]? = some x → ∃ b o, A = some ⟨b, o, none⟩ ∧ w.cell? ⟨b, o + k * 257, none⟩ = some (.bool x.isAny) ∧ ∀ c : UInt8, w.cell? ⟨b, o + k * 257 + (1 + c.toNat), none⟩ = some (.bool (x.has c))
theorem ThsAt.of_sl {w : World} {A : Option Addr} {n c : Nat} {ths : List Th} (h : Sl w 257 (.slice A n c) n (rows ths)) : ThsAt w A ths := by
  intro k x hx
  obtain ⟨A0, c0, e0, h0, h1, h2, h3, h4⟩ := h
  obtain ⟨rfl, rfl⟩ : A0 = A ∧ c0 = c := by simp at e0; exact ⟨e0.1.symm, e0.2.symm⟩
  have hg := rows_get ths k 0 x hx (by omega)
  have hlen : 0 < (rows ths).length := by
    rw [thRow, rowOf_zero] at hg
    have := (List.getElem?_eq_some_iff.1 hg).1; omega
  obtain ⟨ad, rfl, hr⟩ := h4 hlen
  have hspot : ad.spot = none := by
    have := hr 0 _ (List.getElem?_eq_getElem hlen)
    exact World.cell?_spot (a := ad) (by simpa [Addr.add] using this)
  obtain ⟨b, off, spot⟩ := ad
  simp only at hspot
  subst hspot
  have ha : ∀ j, (⟨b, off, none⟩ : Addr).add j = ⟨b, off + j, none⟩ := fun j => by unfold Addr.add; split <;> simp_all
  refine ⟨b, off, rfl, ?_, fun c => ?_⟩
  · have := hr (k * 257) _ (by rw [← Nat.add_zero (k * 257), hg]; exact rowOf_zero _ _)
    rwa [ha] at this
  · have hc := c.toNat_lt
    have := hr (k * 257 + (1 + c.toNat)) _ (by rw [rows_get ths k _ x hx (by omega)]; exact rowOf_succ _ _ c)
    rw [ha, ← Nat.add_assoc] at this
    exact this
theorem ThsAt.chg {w w' : World} {A : Option Addr} {ths : List Th} (h : ThsAt w A ths) (hc : Chg [] w w') : ThsAt w' A ths := by
  intro k x hx
  obtain ⟨b, o, h1, h2, h3⟩ := h k x hx
  exact ⟨b, o, h1, hc.cell h2 (by simp), fun c => hc.cell (h3 c) (by simp)⟩
theorem Try.info_bool : (Try.prog.info? 4).map (fun i => (i.zero, i.size, i.bytes)) = some (some (.bool false), 1, 1) := by kernel_rfl
theorem make_bools (N : Nat) (hN : N ≤ 1000001) : ∃ Z : Array Value, (∀ w : World, (Instr.makeSlice 99 (.int .i64 (N : Int)) (.int .i64 (N : Int))).run Try.prog w = .ok (.slice (some ⟨w.heap.size, 0, none⟩) N N) (w.alloc (.cells Z 4))) ∧
    (∀ w : World, RowB (w.alloc (.cells Z 4)) w.heap.size N (fun _ => false)) ∧ ∀ w : World, RowB (w.alloc (.cells (Z.setIfInBounds 0 (.bool true)) 4)) w.heap.size N (fun i => decide (i = 0)) := by
  obtain ⟨i0, hi0, hz0, hz1, hz2⟩ := info_parts Try.info_bool
  refine ⟨madeCells (Value.cells (.bool false)) N, fun w => ?_, fun w => ⟨_, blk_new _ _, size_madeCells _ _, fun i hi => ?_⟩, fun w => ⟨_, blk_new _ _, by rw [Array.size_setIfInBounds]; exact size_madeCells _ _, fun i hi => ?_⟩⟩
  · have h := run_make (P := Try.prog) w 99 4 i0 (.bool false) Try.underlying99 hi0 hz0 .i64 .i64 N N (by omega) (Int.le_refl _) (by rw [hz2]; omega) (by omega)
    rw [hz1, Nat.mul_one, Int.toNat_natCast] at h
    exact h
  · simp [madeCells, Value.cells, hi, Nat.mod_one]
  · rw [Array.getElem?_setIfInBounds]
    by_cases e : i = 0
    · subst e; simp [size_madeCells, hi]
    · rw [if_neg (fun e' => e e'.symm)]; simp [madeCells, Value.cells, hi, Nat.mod_one, e]
/-- What the reference's row says behind `k` things. -/
def dp (ths : List Th) (T : List UInt8) (k i : Nat) : Bool := Like (ths.take k) (T.take i)
theorem dp_zero (ths : List Th) (T : List UInt8) (i : Nat) (hi : i ≤ T.length) : dp ths T 0 i = decide (i = 0) := by
  unfold dp
  rw [List.take_zero]
  cases i with
  | zero => simp [like_nil_nil]
  | succ i =>
    cases T with
    | nil => simp at hi
    | cons c T => simp [like_nil_cons]
theorem take_snoc {ths : List Th} {k : Nat} {x : Th} (h : ths[k]? = some x) : ths.take (k + 1) = ths.take k ++ [x] := by rw [List.take_add_one, h]; rfl
theorem dp_any {ths : List Th} {T : List UInt8} {k i : Nat} {x : Th} (h : ths[k]? = some x) (hx : x.isAny = true) : dp ths T (k + 1) i = true ↔ ∃ j, j < i + 1 ∧ dp ths T k j = true := by
  have e : x = .any := by cases x <;> simp [Th.isAny] at hx; rfl
  unfold dp
  rw [take_snoc h, e, like_snoc_any]
  constructor
  · rintro ⟨d, hd, h1⟩
    simp only [List.length_take] at hd
    rw [List.take_take] at h1
    exact ⟨min d i, by omega, h1⟩
  · rintro ⟨j, hj, h1⟩
    by_cases hT : j ≤ T.length
    · exact ⟨j, by simp; omega, by rw [List.take_take, Nat.min_eq_left (by omega)]; exact h1⟩
    · rw [List.take_of_length_le (show T.length ≤ j by omega)] at h1
      rw [List.take_of_length_le (l := T) (show T.length ≤ i by omega)]
      exact ⟨T.length, Nat.le_refl _, by rw [List.take_of_length_le (Nat.le_refl _)]; exact h1⟩
theorem dp_byte {ths : List Th} {T : List UInt8} {k i : Nat} {x : Th} {c : UInt8} (h : ths[k]? = some x) (hx : x.isAny = false) (hc : T[i]? = some c) : dp ths T (k + 1) (i + 1) = (dp ths T k i && x.has c) := by
  unfold dp
  rw [take_snoc h, like_snoc_byte hx _ _ _ c hc]
theorem dp_first {ths : List Th} {T : List UInt8} {k : Nat} {x : Th} (h : ths[k]? = some x) (hx : x.isAny = false) : dp ths T (k + 1) 0 = false := by
  unfold dp
  rw [take_snoc h, List.take_zero, like_snoc_nil hx]
set_option maxRecDepth 100000 in
set_option maxHeartbeats 4000000 in
theorem like_ref (t : ByteArray) (ht : t.size ≤ 1000000) (A : Option Addr) (n c : Nat) (ths : List Th) (hn : ths.length = n) (hn2 : n ≤ 1000000) (w : World) (h : ThsAt w A ths) :
    Calls Try.prog 50 #[.slice A n c, .string t] w fun e w' => e = .returned (.bool (Like ths t.data.toList)) ∧ Chg [] w w' := by
  obtain ⟨T, hT⟩ : ∃ T, T = t.data.toList := ⟨_, rfl⟩
  have hTl : T.length = t.size := by rw [hT, Array.length_toList]; rfl
  have hby : ∀ i (h : i < t.size), T[i]? = some (t[i]'h) := fun i h => by rw [hT]; exact byte_at t i h
  rw [← hT]
  replace hT := Lib.hid hT
  replace hTl := Lib.hid hTl
  replace hby := Lib.hid hby
  obtain ⟨Z, hmk, hZ, hZ0⟩ := make_bools (t.size + 1) (by omega)
  replace hZ := Lib.hid hZ
  replace hZ0 := Lib.hid hZ0
  have hmk' : ∀ w : World, (Instr.makeSlice 99 (.int .i64 ((t.size : Int) + 1)) (.int .i64 ((t.size : Int) + 1))).run Try.prog w = .ok (.slice (some ⟨w.heap.size, 0, none⟩) (t.size + 1) (t.size + 1)) (w.alloc (.cells Z 4)) := hmk
  clear hmk
  have c0 := (hZ.out w).cell (i := 0) (by omega)
  have f0 := (hZ.out w).frozen 0
  go_enter Try.func50, Try.ntmps50
  go_wp2_with fail
  go_loopw [5, 6] (fun v i wr => ∃ (k g : Nat), k ≤ n ∧ i = .int .i64 k ∧ v = .slice (some ⟨g, 0, none⟩) (t.size + 1) (t.size + 1) ∧ RowB wr g (t.size + 1) (dp ths T k) ∧ Chg [] w wr) (fun _ i _ => n - (intOf i).toNat)
  case atStart =>
    refine ⟨0, w.heap.size, by omega, rfl, rfl, (hZ0.out w).congr (fun j hj => ?_), (Chg.refl [] w).alloc _⟩
    rw [dp_zero _ _ _ (by rw [hTl.out]; omega)]
  case round =>
    obtain ⟨k, g, hk, rfl, rfl, hR, hC⟩ := hrel
    by_cases hlt : k < n
    · obtain ⟨x, hx⟩ : ∃ x, ths[k]? = some x := ⟨_, List.getElem?_eq_getElem (by omega)⟩
      obtain ⟨b, o, rfl, hAny, hOne⟩ := h k x hx
      have hgl := hR.lt
      have hR2 := hR.chg ((Chg.refl [] wr).alloc (.cells Z 4)) (by simp)
      have hN2 := hZ.out wr
      have hC2 := hC.alloc (.cells Z 4)
      have hCs := Lib.hid hC.size
      clear hR hC c0 f0
      replace hR2 := Lib.hid hR2
      replace hN2 := Lib.hid hN2
      replace hC2 := Lib.hid hC2
      replace hgl := Lib.hid hgl
      replace hAny := Lib.hid hAny
      replace hOne := Lib.hid hOne
      obtain ⟨g2, hg2⟩ : ∃ g2, wr.heap.size = g2 := ⟨_, rfl⟩
      obtain ⟨w0, hw0⟩ : ∃ w0, wr.alloc (.cells Z 4) = w0 := ⟨_, rfl⟩
      rw [hw0] at hR2 hN2 hC2
      rw [hg2] at hN2 hgl
      have hg2s : Hid (w.heap.size ≤ g2) := by rw [← hg2]; exact hCs.out
      go_wp2_with fail
      go_loopw [8, 9] (fun sv i wx => ∃ (j : Nat) (sm : Bool), j ≤ t.size + 1 ∧ i = .int .i64 j ∧ sv = .bool sm ∧ Hid (x.isAny = true → (sm = true ↔ ∃ d, d < j ∧ dp ths T k d = true)) ∧ RowB wx g (t.size + 1) (dp ths T k) ∧ RowB wx g2 (t.size + 1) (fun d => decide (d < j) && dp ths T (k + 1) d) ∧ Chg [] w wx) (fun _ i _ => t.size + 1 - (intOf i).toNat)
      case atStart => exact ⟨0, false, by omega, rfl, rfl, (show _ → _ from fun _ => by simp), hR2.out, hN2.out.congr (fun i hi => by simp), hC2.out⟩
      case round =>
        obtain ⟨j, sm, hj, rfl, rfl, hsm, hR, hN, hC⟩ := hrel
        by_cases hjl : j ≤ t.size
        · have cA := hC.cell hAny.out (by simp)
          have cN := hN.cell (i := j) (by omega)
          have fN := hN.frozen j
          have hput : ∀ b, dp ths T (k + 1) j = b → RowB (wr.setCell ⟨g2, j, none⟩ (.bool b)) g2 (t.size + 1) (fun d => decide (d < j + 1) && dp ths T (k + 1) d) := fun b hb => hN.put j b (fun d hd => by
            by_cases e : d = j
            · subst e; rw [if_pos rfl, ← hb]; simp
            · rw [if_neg e]
              by_cases e2 : d < j
              · simp [e2, show d < j + 1 by omega]
              · simp [e2, show ¬ d < j + 1 by omega])
          have hstay : dp ths T (k + 1) j = false → RowB wr g2 (t.size + 1) (fun d => decide (d < j + 1) && dp ths T (k + 1) d) := fun hb => hN.congr (fun d hd => by
            by_cases e : d = j
            · subst e; rw [hb]; simp
            · by_cases e2 : d < j
              · simp [e2, show d < j + 1 by omega]
              · simp [e2, show ¬ d < j + 1 by omega])
          have hRp : ∀ b, RowB (wr.setCell ⟨g2, j, none⟩ (.bool b)) g (t.size + 1) (dp ths T k) := fun b => hR.chg ((Chg.refl [g2] wr).setCell (.inl (by simp)) _) (by have := hgl.out; simp; omega)
          have hCp : ∀ b, Chg [] w (wr.setCell ⟨g2, j, none⟩ (.bool b)) := fun b => hC.setCell (.inr (by have := hg2s.out; exact this)) _
          replace hput := Lib.hid hput
          replace hRp := Lib.hid hRp
          replace hCp := Lib.hid hCp
          have hor : x.isAny = true ∨ x.isAny = false := by cases x.isAny <;> simp
          rcases hor with hxa | hxa
          case inl =>
            rw [hxa] at cA
            have hiff := dp_any (T := T) (i := j) hx hxa
            have hsm1 := hsm.out hxa
            replace hxa := Lib.hid hxa
            cases sm with
            | true =>
              have hd : dp ths T (k + 1) j = true := hiff.2 (by obtain ⟨d, h1, h2⟩ := hsm1.1 rfl; exact ⟨d, by omega, h2⟩)
              have hs' : Hid (x.isAny = true → (true = true ↔ ∃ d, d < j + 1 ∧ dp ths T k d = true)) := fun _ => ⟨fun _ => hiff.1 hd, fun _ => rfl⟩
              have hN' := Lib.hid (hput.out true hd)
              clear hstay hN hR hsm hsm1 hiff hd hC
              go_wp2_with fail
              go_roundw
              case rel => exact ⟨j + 1, true, by omega, by go_num, rfl, hs', hRp.out _, hN'.out, hCp.out _⟩
              case measure => simp [intOf]; omega
            | false =>
              have cR := hR.cell (i := j) (by omega)
              cases hb : dp ths T k j with
              | true =>
                rw [hb] at cR
                have hd : dp ths T (k + 1) j = true := hiff.2 ⟨j, by omega, hb⟩
                have hs' : Hid (x.isAny = true → (true = true ↔ ∃ d, d < j + 1 ∧ dp ths T k d = true)) := fun _ => ⟨fun _ => hiff.1 hd, fun _ => rfl⟩
                have hN' := Lib.hid (hput.out true hd)
                clear hstay hN hR hsm hsm1 hiff hd hC hb
                go_wp2_with fail
                go_roundw
                case rel => exact ⟨j + 1, true, by omega, by go_num, rfl, hs', hRp.out _, hN'.out, hCp.out _⟩
                case measure => simp [intOf]; omega
              | false =>
                rw [hb] at cR
                have hno : ¬ ∃ d, d < j + 1 ∧ dp ths T k d = true := by
                  rintro ⟨d, h1, h2⟩
                  by_cases e : d = j
                  · subst e; rw [hb] at h2; cases h2
                  · have := hsm1.2 ⟨d, by omega, h2⟩; cases this
                have hd : dp ths T (k + 1) j = false := by
                  rw [Bool.eq_false_iff]; intro h1; exact hno (hiff.1 h1)
                have hs' : Hid (x.isAny = true → (false = true ↔ ∃ d, d < j + 1 ∧ dp ths T k d = true)) := fun _ => ⟨fun h1 => (by cases h1), fun h1 => absurd h1 hno⟩
                have hN' := Lib.hid (hput.out false hd)
                clear hstay hN hR hsm hsm1 hiff hd hC hb hno
                go_wp2_with fail
                go_roundw
                case rel => exact ⟨j + 1, false, by omega, by go_num, rfl, hs', hRp.out _, hN'.out, hCp.out _⟩
                case measure => simp [intOf]; omega
          case inr =>
            rw [hxa] at cA
            have hs' : ∀ sm, Hid (x.isAny = true → (sm = true ↔ ∃ d, d < j + 1 ∧ dp ths T k d = true)) := fun sm h1 => by rw [hxa] at h1; cases h1
            have hdf := dp_first (T := T) hx hxa
            have hdb := fun (i : Nat) (c : UInt8) (hc : T[i]? = some c) => dp_byte hx hxa hc
            replace hxa := Lib.hid hxa
            replace hdf := Lib.hid hdf
            replace hdb := Lib.hid hdb
            by_cases hj0 : j = 0
            · subst hj0
              have hN' := Lib.hid (hstay hdf.out)
              replace hR := Lib.hid hR
              replace hC := Lib.hid hC
              clear hput hstay hN hsm hRp hCp cN fN
              go_wp2_with fail
              go_quiet (fail)
              go_wp2_with fail
              go_roundw
              case rel => exact ⟨1, sm, by omega, by go_num, rfl, hs' sm, hR.out.chg ((Chg.refl [] wr).drewN nq) (by simp), hN'.out.chg ((Chg.refl [] wr).drewN nq) (by simp), hC.out.drewN nq⟩
              case measure => simp [intOf]
            · obtain ⟨i, rfl⟩ : ∃ i, j = i + 1 := ⟨j - 1, by omega⟩
              obtain ⟨a, ha⟩ : ∃ a, a = t[i]'(by omega) := ⟨_, rfl⟩
              have hd := hdb.out i a ((hby.out i (by omega)).trans (by rw [← ha]))
              have cR := hR.cell (i := i) (by omega)
              have cO := hC.cell (hOne.out a) (by simp)
              rw [← Nat.add_assoc] at cO
              have ha' := ha.symm
              have h256 : (a.toNat : Int) < 256 := by have := a.toNat_lt; omega
              have h0 : (0 : Int) ≤ a.toNat := by omega
              have ew : IntKind.i64.wrap (i : Int) = (i : Int) := IntWalk.i64_in _ (by omega)
              have hput' := Lib.hid (hput.out true)
              have hstay' := Lib.hid hstay
              replace hR := Lib.hid hR
              replace hC := Lib.hid hC
              replace hd := Lib.hid hd
              clear ha hsm hN hput hstay hj0
              cases hb : dp ths T k i with
              | true =>
                rw [hb] at cR
                cases hq : x.has a with
                | true =>
                  rw [hq] at cO
                  have hN' := Lib.hid (hput'.out (by rw [hd.out, hb, hq]; rfl))
                  clear hput' hstay' hd hb hq
                  go_wp2_with fail
                  go_quiet (fail)
                  go_wp2_with fail
                  go_roundw
                  case rel => exact ⟨i + 1 + 1, sm, by omega, by go_num, rfl, hs' sm, (hRp.out true).chg ((Chg.refl [] (wr.setCell ⟨g2, i + 1, none⟩ (.bool true))).drewN nq) (by simp), hN'.out.chg ((Chg.refl [] (wr.setCell ⟨g2, i + 1, none⟩ (.bool true))).drewN nq) (by simp), (hCp.out true).drewN nq⟩
                  case measure => simp [intOf]; omega
                | false =>
                  rw [hq] at cO
                  have hN' := Lib.hid (hstay'.out (by rw [hd.out, hb, hq]; rfl))
                  clear hput' hstay' hd hb hq cN fN
                  go_wp2_with fail
                  go_quiet (fail)
                  go_wp2_with fail
                  go_roundw
                  case rel => exact ⟨i + 1 + 1, sm, by omega, by go_num, rfl, hs' sm, hR.out.chg ((Chg.refl [] wr).drewN nq) (by simp), hN'.out.chg ((Chg.refl [] wr).drewN nq) (by simp), hC.out.drewN nq⟩
                  case measure => simp [intOf]; omega
              | false =>
                rw [hb] at cR
                have hN' := Lib.hid (hstay'.out (by rw [hd.out, hb]; rfl))
                clear hput' hstay' hd hb cN fN cO
                go_wp2_with fail
                go_quiet (fail)
                go_wp2_with fail
                go_roundw
                case rel => exact ⟨i + 1 + 1, sm, by omega, by go_num, rfl, hs' sm, hR.out.chg ((Chg.refl [] wr).drewN nq) (by simp), hN'.out.chg ((Chg.refl [] wr).drewN nq) (by simp), hC.out.drewN nq⟩
                case measure => simp [intOf]; omega
        · obtain rfl : j = t.size + 1 := by omega
          have hN' := Lib.hid (hN.congr (f' := dp ths T (k + 1)) (fun i hi => by simp [hi]))
          replace hC := Lib.hid hC
          clear hN hR hsm
          go_wp2_with fail
          go_roundw
          case rel => exact ⟨k + 1, g2, by omega, by go_num, rfl, hN'.out, hC.out⟩
          case measure => simp [intOf]; omega
    · obtain rfl : k = n := by omega
      have cL := hR.cell (i := t.size) (by omega)
      have e : dp ths T k t.size = Like ths T := by unfold dp; rw [List.take_of_length_le (by omega), List.take_of_length_le (by rw [hTl.out]; omega)]
      rw [e] at cL
      go_wp2
      go_ret
      exact ⟨rfl, hC⟩
end Go.Proofs.Ytojgdmpnbgikeaa
namespace Go.Proofs.Ytojgdmpnbgikeaa
open Go.RowKit Glob
theorem things_long (s : ByteArray) (h : 1024 < s.size) (hm : s.size ≤ 9223372036854775807) (w : World) :
    Calls Try.prog 35 #[.string s] w fun e w' => e = .returned (.tuple #[.slice none 0 0, .int .i64 6]) ∧ w = w' := by
  go_enter Try.func35, Try.ntmps35
  go_wp2
  go_ret2
  exact ⟨rfl, rfl⟩
theorem match_long (s t : ByteArray) (h : 1024 < s.size) (hm : s.size ≤ 9223372036854775807) (w : World) :
    Calls Try.prog 25 #[.string s, .string t] w fun e w' => e = .returned (.tuple #[.bool false, .int .i64 6]) ∧ w = w' := by
  go_enter Try.func25, Try.ntmps25
  go_wp2_with fail
  refine (things_long s h hm _).mono ?_
  rintro e w' ⟨rfl, rfl⟩
  go_wp2_with fail
  go_ret2
  exact ⟨rfl, rfl⟩
theorem check_long (s : ByteArray) (h : 1024 < s.size) (hm : s.size ≤ 9223372036854775807) (w : World) :
    Calls Try.prog 22 #[.string s] w fun e w' => e = .returned (.int .i64 6) ∧ w = w' := by
  go_enter Try.func22, Try.ntmps22
  go_wp2_with fail
  refine (things_long s h hm _).mono ?_
  rintro e w' ⟨rfl, rfl⟩
  go_wp2_with fail
  go_ret
  exact ⟨rfl, rfl⟩
theorem span_long (s t : ByteArray) (most : Int) (h : 1024 < s.size) (hm : s.size ≤ 9223372036854775807) (w : World) :
    Calls Try.prog 45 #[.string s, .string t, .int .i64 most] w fun e w' => e = .returned (.tuple #[.int .i64 0, .bool false, .int .i64 6]) ∧ w = w' := by
  go_enter Try.func45, Try.ntmps45
  go_wp2_with fail
  refine (things_long s h hm _).mono ?_
  rintro e w' ⟨rfl, rfl⟩
  go_wp2_with fail
  go_ret3
  exact ⟨rfl, rfl⟩
theorem span_none (s t : ByteArray) (most : Int) (hs : s.size ≤ 1024) (hp : parse s.data.toList = none) (w : World) :
    Calls Try.prog 45 #[.string s, .string t, .int .i64 most] w fun e w' => e = .returned (.tuple #[.int .i64 0, .bool false, .int .i64 4]) ∧ Chg [] w w' := by
  have hsz : s.data.toList.length = s.size := by rw [Array.length_toList]; rfl
  have hth := Lib.hid (things_any s (by omega) w)
  go_enter Try.func45, Try.ntmps45
  go_wp2_with fail
  refine hth.out.mono ?_
  rintro e w1 ⟨hC, h⟩
  clear hth
  replace hC := Lib.hid hC
  rcases h with ⟨h1, rfl⟩ | ⟨h1, h2, rfl⟩ | ⟨h1, ths', A, c, cs, hp', rfl, hS, hT, hlen⟩
  · omega
  · clear hp h2
    go_wp2_with fail
    go_ret3
    exact ⟨rfl, hC.out⟩
  · rw [hp] at hp'; cases hp'
theorem span_neg (s t : ByteArray) (most : Int) (hmost : most < 0) (hs : s.size ≤ 1024) (ths : List Th) (hp : parse s.data.toList = some ths) (w : World) :
    Calls Try.prog 45 #[.string s, .string t, .int .i64 most] w fun e w' => e = .returned (.tuple #[.int .i64 0, .bool false, .int .i64 0]) ∧ Chg [] w w' := by
  have hsz : s.data.toList.length = s.size := by rw [Array.length_toList]; rfl
  have hth := Lib.hid (things_any s (by omega) w)
  go_enter Try.func45, Try.ntmps45
  go_wp2_with fail
  refine hth.out.mono ?_
  rintro e w1 ⟨hC, h⟩
  clear hth
  replace hC := Lib.hid hC
  rcases h with ⟨h1, rfl⟩ | ⟨h1, h2, rfl⟩ | ⟨h1, ths', A, c, cs, hp', rfl, hS, hT, hlen⟩
  · omega
  · rw [hp] at h2; cases h2
  · clear hp hp' hS hT hlen
    go_wp2_with fail
    go_ret3
    exact ⟨rfl, hC.out⟩
/-- What the reference's `Span` tells. -/
def RSpanIs (ths : List Th) (t : List UInt8) (most : Int) (i : Int) (ok : Bool) : Prop :=
  (ok = true ∧ ∃ k : Nat, i = k ∧ (t.length : Int) - k ≤ most ∧ k ≤ t.length ∧ Like ths (t.drop k) = true ∧ ∀ j : Nat, (t.length : Int) - j ≤ most → j < k → Like ths (t.drop j) = false)
  ∨ (ok = false ∧ i = 0 ∧ ∀ j : Nat, (t.length : Int) - j ≤ most → j ≤ t.length → Like ths (t.drop j) = false)
theorem span_same {ths : List Th} {t : List UInt8} {most : Int} {i i' : Int} {ok ok' : Bool} (h0 : 0 ≤ most) (h : SpanIs ths t (t.length - most.toNat) i ok) (h' : RSpanIs ths t most i' ok') : i = i' ∧ ok = ok' := by
  rcases h with ⟨rfl, k, rfl, a1, a2, a3, a4⟩ | ⟨rfl, rfl, a4⟩ <;> rcases h' with ⟨rfl, k', rfl, b1, b2, b3, b4⟩ | ⟨rfl, rfl, b4⟩
  · have : k = k' := by
      rcases Nat.lt_trichotomy k k' with h | h | h
      · have := b4 k (by omega) h; rw [a3] at this; cases this
      · exact h
      · have := a4 k' (by omega) h; rw [b3] at this; cases this
    exact ⟨by rw [this], rfl⟩
  · have := b4 k (by omega) a2; rw [a3] at this; cases this
  · have := a4 k' (by omega) b2; rw [b3] at this; cases this
  · exact ⟨rfl, rfl⟩
theorem span_neg_same {ths : List Th} {t : List UInt8} {most : Int} {i' : Int} {ok' : Bool} (h0 : most < 0) (h' : RSpanIs ths t most i' ok') : i' = 0 ∧ ok' = false := by
  rcases h' with ⟨rfl, k', rfl, b1, b2, b3, b4⟩ | ⟨rfl, rfl, b4⟩
  · omega
  · exact ⟨rfl, rfl⟩
set_option maxRecDepth 100000 in
set_option maxHeartbeats 2000000 in
theorem span_ref (t : ByteArray) (ht : t.size ≤ 1000000) (most : Int) (m1 : -9223372036854775808 ≤ most) (m2 : most ≤ 9223372036854775807) (A : Option Addr) (n c : Nat) (ths : List Th) (hn : ths.length = n) (hn2 : n ≤ 1000000) (w : World) (h : ThsAt w A ths) :
    Calls Try.prog 38 #[.slice A n c, .string t, .int .i64 most] w fun e w' => ∃ i ok, e = .returned (.tuple #[.int .i64 i, .bool ok]) ∧ RSpanIs ths t.data.toList most i ok ∧ Chg [] w w' := by
  obtain ⟨tl, htl⟩ : ∃ tl, tl = t.data.toList := ⟨_, rfl⟩
  have hls : tl.length = t.size := by rw [htl, Array.length_toList]; rfl
  have hex : ∀ k, (t.extract k t.size).data.toList = tl.drop k := fun k => by rw [extract_list, ← htl, List.take_of_length_le (by omega)]
  rw [← htl]
  clear htl
  have hk : ∀ k W, Chg [] w W → Calls Try.prog 50 #[.slice A n c, .string (t.extract k t.size)] W fun e w' => e = .returned (.bool (Like ths (tl.drop k))) ∧ Chg [] w w' := fun k W hW => by
    rw [← hex k]
    refine (like_ref (t.extract k t.size) (by rw [ByteArray.size_extract]; omega) A n c ths hn hn2 W (h.chg hW)).mono ?_
    rintro e w' ⟨h1, h2⟩
    exact ⟨h1, hW.trans h2⟩
  replace hk := Lib.hid hk
  replace hls := Lib.hid hls
  clear h hex hn
  go_enter Try.func38, Try.ntmps38
  go_wp2_with fail
  go_loopw [8] (fun v wr => ∃ (k : Nat), v = .int .i64 k ∧ k ≤ t.size + 1 ∧ Hid (∀ j : Nat, (t.size : Int) - j ≤ most → j < k → Like ths (tl.drop j) = false) ∧ Hid (Chg [] w wr)) (fun v _ => t.size + 1 - (intOf v).toNat)
  case atStart => exact ⟨0, rfl, by omega, (show ∀ _, _ from fun j _ hj => absurd hj (by omega)), Chg.refl _ _⟩
  case round =>
    obtain ⟨k, rfl, hk1, hN, hC⟩ := hrel
    by_cases hlt : k ≤ t.size
    · have ew : IntKind.i64.wrap ((t.size : Int) - k) = (t.size : Int) - k := IntWalk.i64_in _ (by omega)
      have hor : (t.size : Int) - k ≤ most ∨ most < (t.size : Int) - k := by omega
      rcases hor with hm | hm
      · have hc := hk.out k wr hC.out
        cases hL : Like ths (tl.drop k) with
        | true =>
          rw [hL] at hc
          have hfin : RSpanIs ths tl most k true := .inl ⟨rfl, k, rfl, by rw [hls.out]; exact hm, by rw [hls.out]; exact hlt, hL, by rw [hls.out]; exact hN.out⟩
          replace hc := Lib.hid hc
          replace hfin := Lib.hid hfin
          clear hL hN hk
          go_wp2_with fail
          refine hc.out.mono ?_
          rintro e w2 ⟨rfl, hw2⟩
          clear hc
          replace hw2 := Lib.hid hw2
          go_wp2_with fail
          go_ret2
          exact ⟨_, _, rfl, hfin.out, hw2.out⟩
        | false =>
          rw [hL] at hc
          have hnew : Hid (∀ j : Nat, (t.size : Int) - j ≤ most → j < k + 1 → Like ths (tl.drop j) = false) := Lib.hid (fun j h1 h2 => by
            by_cases e : j = k
            · rw [e]; exact hL
            · exact hN.out j h1 (by omega))
          replace hc := Lib.hid hc
          clear hL hN hk
          go_wp2_with fail
          refine hc.out.mono ?_
          rintro e w2 ⟨rfl, hw2⟩
          clear hc
          replace hw2 := Lib.hid hw2
          go_wp2_with fail
          go_roundw
          case rel => exact ⟨k + 1, by go_num, by omega, hnew, hw2⟩
          case measure => simp [intOf]; omega
      · have hnew : Hid (∀ j : Nat, (t.size : Int) - j ≤ most → j < k + 1 → Like ths (tl.drop j) = false) := Lib.hid (fun j h1 h2 => hN.out j h1 (by omega))
        clear hN hk
        go_wp2_with fail
        go_roundw
        case rel => exact ⟨k + 1, by go_num, by omega, hnew, hC⟩
        case measure => simp [intOf]; omega
    · have hfin : RSpanIs ths tl most 0 false := .inr ⟨rfl, rfl, fun j h1 h2 => hN.out j (by rw [hls.out] at h1; exact h1) (by rw [hls.out] at h2; omega)⟩
      clear hN hk
      replace hfin := Lib.hid hfin
      go_wp2_with fail
      go_ret2
      exact ⟨_, _, rfl, hfin.out, hC.out⟩
end Go.Proofs.Ytojgdmpnbgikeaa
namespace Go.Proofs.Ytojgdmpnbgikeaa
open Go.RowKit PMatchFeeds YtojgdmpnbgikeaaW.PrintWords
namespace Mt
open Kmp Glob
theorem rthings_err (p : List UInt8) (h : p.length ≤ 9223372036854775807) (w : World) :
    Calls Try.prog 23 #[.string (bs p)] w fun e w' => ∃ A c n, e = .returned (.tuple #[.slice A n c, .int .i64 (errOf p)]) ∧ Hid (∀ ths, p.length ≤ 1024 → parse p = some ths → ThsAt w' A ths ∧ ths.length = n ∧ n ≤ 1024) ∧ Hid (Chg [] w w') := by
  refine (things_ref (bs p) (by rw [bs_size]; exact h) w).mono ?_
  rintro e w' ⟨hC, h1 | h1 | h1⟩
  · have h2 : p.length > 1024 := h1.1
    refine ⟨none, 0, 0, ?_, Lib.hid (fun ths h3 _ => absurd h3 (show ¬ p.length ≤ 1024 by omega)), Lib.hid hC⟩
    rw [errOf_long h2]; exact h1.2
  · have h2 : p.length ≤ 1024 := h1.1
    have h3 : parse p = none := h1.2.1
    refine ⟨none, 0, 0, ?_, Lib.hid (fun ths _ h4 => (by rw [h3] at h4; cases h4)), Lib.hid hC⟩
    rw [errOf_none h2 h3]; exact h1.2.2
  · obtain ⟨h0, ths, A, c, h2, h3, h4, h5⟩ := h1
    have h0 : p.length ≤ 1024 := h0
    have h2 : parse p = some ths := h2
    have h5 : ths.length ≤ p.length := h5
    refine ⟨A, c, ths.length, ?_, Lib.hid (fun ths' _ h6 => ?_), Lib.hid hC⟩
    · rw [errOf_some h0 h2]; exact h3
    · rw [h2] at h6; cases h6
      exact ⟨ThsAt.of_sl h4, rfl, by omega⟩
/-- What `from` tells. -/
def fromV (o : Option Nat) : Int := match o with | some f => f | none => -1
theorem rspan_from {most : Nat} {x : Br} {T : List UInt8} {ths : List Th} {i : Int} {ok : Bool} (hk : x.kind = 1) (hp : parse x.pat = some ths) (h : RSpanIs ths T most i ok) : fromV (fromOf most x T) = if ok then i else -1 := by
  have hf : ∀ t, fits x t = Like ths t := fun t => by rw [fits, if_neg (by omega), if_pos hk, hp]
  rcases h with ⟨rfl, k, rfl, h1, h2, h3, h4⟩ | ⟨rfl, rfl, h4⟩
  · rw [from_some (f := k) h2 (by omega) (by rw [hf]; exact h3) (fun j hj hm => by rw [hf]; exact h4 j (by omega) hj)]; rfl
  · rw [from_none (fun j hj hm => by rw [hf]; exact h4 j (by omega) hj)]; rfl
theorem bs_drop (T : List UInt8) (k : Nat) : (bs T).extract k (bs T).size = bs (T.drop k) := by
  refine bs_of ?_
  rw [extract_list]
  show (T.take T.length).drop k = T.drop k
  rw [List.take_length]
theorem bs_inj {a b : List UInt8} (h : bs a = bs b) : a = b := by
  have := congrArg (fun z => z.data.toList) h
  simpa [bs] using this
theorem exact_yes {most : Nat} {T p : List UInt8} {k : Nat} (h1 : p.length + k = T.length) (h2 : p.length ≤ most) (h3 : (bs T).extract k (bs T).size = bs p) : fromV (fromOf most ⟨0, p⟩ T) = k := by
  rw [bs_drop] at h3
  have h4 := bs_inj h3
  rw [from_exact rfl h2, if_pos (by simp only; rw [← h4]; exact List.drop_suffix _ _)]
  simp only [fromV]
  omega
theorem exact_no {most : Nat} {T p : List UInt8} {k : Nat} (h1 : p.length + k = T.length) (h2 : p.length ≤ most) (h3 : ¬ (bs T).extract k (bs T).size = bs p) : fromV (fromOf most ⟨0, p⟩ T) = -1 := by
  rw [bs_drop] at h3
  rw [from_exact rfl h2, if_neg]
  · rfl
  · intro h
    have := List.suffix_iff_eq_drop.1 h
    apply h3
    simp only at this
    rw [show T.length - p.length = k by omega] at this
    rw [← this]
theorem exact_short {most : Nat} {T p : List UInt8} (h1 : T.length < p.length) : fromV (fromOf most ⟨0, p⟩ T) = -1 := by
  rw [from_none]
  · rfl
  · intro j hj _
    rw [fits, if_pos rfl, beq_eq_false_iff_ne]
    intro e
    have := congrArg List.length e
    simp at this; omega
theorem exact_over {most : Nat} {T p : List UInt8} (h1 : most < p.length) : fromV (fromOf most ⟨0, p⟩ T) = -1 := by
  rw [from_long rfl h1]; rfl
set_option maxRecDepth 100000 in
set_option maxHeartbeats 4000000 in
theorem from_zero (w : World) (most : Nat) (hm : most ≤ 1048576) (T : List UInt8) (hT : T.length ≤ 100000) (p : List UInt8) (hl : p.length ≤ 9223372036854775807) :
    Calls Try.prog 24 #[.int .i64 most, .string (bs T), .agg #[.int .i64 0, .string (bs p)]] w fun e w' => e = .returned (.int .i64 (fromV (fromOf most ⟨0, p⟩ T))) ∧ Chg [] w w' := by
  have hC0 := Lib.hid ((Chg.refl [] w).alloc (.cells #[.int .i64 0, .string (bs p)] 45))
  have e1 := fun (k : Nat) => exact_yes (most := most) (T := T) (p := p) (k := k)
  have e2 := fun (k : Nat) => exact_no (most := most) (T := T) (p := p) (k := k)
  have e3 := exact_short (most := most) (T := T) (p := p)
  have e4 := exact_over (most := most) (T := T) (p := p)
  generalize fromV (fromOf most ⟨0, p⟩ T) = r at e1 e2 e3 e4 ⊢
  obtain ⟨t, ht⟩ : ∃ t, t = bs T := ⟨_, rfl⟩
  obtain ⟨q, hq⟩ : ∃ q, q = bs p := ⟨_, rfl⟩
  have hts : t.size = T.length := by rw [ht]; rfl
  have hqs : q.size = p.length := by rw [hq]; rfl
  rw [← ht] at e1 e2 ⊢
  rw [← hq] at e1 e2 hC0 ⊢
  rw [← hqs] at hl e4
  rw [← hts, ← hqs] at e3
  simp only [← hts, ← hqs] at e1 e2
  rw [← hts] at hT
  clear hts hqs ht hq
  rcases Nat.lt_or_ge t.size q.size with h1 | h1
  · obtain rfl := e3 h1
    clear e1 e2 e4 e3
    have ew : IntKind.i64.wrap ((t.size : Int) - q.size) = (t.size : Int) - q.size := IntWalk.i64_in _ (by omega)
    have d1 : decide (q.size ≤ t.size) = false := by simp; omega
    go_enter Try.func24, Try.ntmps24
    go_wp2_with fail
    go_quiet (fail)
    go_wp2_with fail
    go_ret
    exact ⟨rfl, hC0.out.drewN _⟩
  · obtain ⟨k, hk⟩ : ∃ k, q.size + k = t.size := ⟨t.size - q.size, by omega⟩
    rcases Nat.lt_or_ge most q.size with h2 | h2
    · obtain rfl := e4 h2
      clear e1 e2 e4 e3
      have ew : IntKind.i64.wrap ((t.size : Int) - q.size) = (k : Int) := by rw [IntWalk.i64_in _ (by omega)]; omega
      replace hk := Lib.hid hk
      have d1 : decide (q.size ≤ t.size) = true := by simp; omega
      have d2 : decide (q.size ≤ most) = false := by simp; omega
      go_enter Try.func24, Try.ntmps24
      go_wp2_with fail
      go_quiet (fail)
      go_wp2_with fail
      go_ret
      exact ⟨rfl, hC0.out.drewN _⟩
    · by_cases h3 : t.extract k t.size = q
      · obtain rfl := e1 k hk h2 h3
        clear e1 e2 e4 e3
        have ew : IntKind.i64.wrap ((t.size : Int) - q.size) = (k : Int) := by rw [IntWalk.i64_in _ (by omega)]; omega
        have hk2 : k ≤ t.size := by omega
        replace hk := Lib.hid hk
        have d1 : decide (q.size ≤ t.size) = true := by simp; omega
        have d2 : decide (q.size ≤ most) = true := by simp; omega
        go_enter Try.func24, Try.ntmps24
        go_wp2_with fail
        go_quiet (fail)
        go_wp2_with fail
        go_ret
        exact ⟨rfl, hC0.out.drewN _⟩
      · obtain rfl := e2 k hk h2 h3
        clear e1 e2 e4 e3
        have d3 : ((t.extract k t.size).toList == q.toList) = false := by
          rw [beq_eq_false_iff_ne]; intro e
          rw [ByteArray.toList_eq, ByteArray.toList_eq] at e
          exact h3 (ByteArray.ext (Array.toList_inj.1 e))
        clear h3
        have ew : IntKind.i64.wrap ((t.size : Int) - q.size) = (k : Int) := by rw [IntWalk.i64_in _ (by omega)]; omega
        have hk2 : k ≤ t.size := by omega
        replace hk := Lib.hid hk
        have d1 : decide (q.size ≤ t.size) = true := by simp; omega
        have d2 : decide (q.size ≤ most) = true := by simp; omega
        go_enter Try.func24, Try.ntmps24
        go_wp2_with fail
        go_quiet (fail)
        go_wp2_with fail
        go_ret
        exact ⟨rfl, hC0.out.drewN _⟩
set_option maxRecDepth 100000 in
set_option maxHeartbeats 4000000 in
theorem from_one (w : World) (most : Nat) (hm : most ≤ 1048576) (T : List UInt8) (hT : T.length ≤ 100000) (p : List UInt8) (hl : p.length ≤ 1024) (ths : List Th) (hp : parse p = some ths) :
    Calls Try.prog 24 #[.int .i64 most, .string (bs T), .agg #[.int .i64 1, .string (bs p)]] w fun e w' => e = .returned (.int .i64 (fromV (fromOf most ⟨1, p⟩ T))) ∧ Chg [] w w' := by
  have hC0 := Lib.hid ((Chg.refl [] w).alloc (.cells #[.int .i64 1, .string (bs p)] 45))
  have hr := fun (i : Int) (ok : Bool) => rspan_from (most := most) (T := T) (x := ⟨1, p⟩) (ths := ths) (i := i) (ok := ok) rfl hp
  generalize fromV (fromOf most ⟨1, p⟩ T) = r at hr ⊢
  replace hr := Lib.hid hr
  have hth := Lib.hid (rthings_err p (by omega))
  replace hl := Lib.hid hl
  replace hp := Lib.hid hp
  go_enter Try.func24, Try.ntmps24
  go_wp2_with fail
  refine (hth.out _).mono ?_
  rintro e w1 ⟨A, c, n, rfl, hT1, hC1⟩
  obtain ⟨ht1, ht2, ht3⟩ := hT1.out ths hl.out hp.out
  have hC2 := Lib.hid (hC0.out.trans hC1.out)
  have hsp := Lib.hid (fun W hW => span_ref (bs T) (by rw [bs_size]; omega) most (by omega) (by omega) A n c ths ht2 (by omega) W hW)
  replace ht1 := Lib.hid ht1
  replace ht2 := Lib.hid ht2
  obtain ⟨eo, heo⟩ : ∃ eo, errOf p = eo := ⟨_, rfl⟩
  rw [heo]
  replace heo := Lib.hid heo
  clear hT1 hth
  go_wp2_with fail
  refine (hsp.out _ ht1.out).mono ?_
  rintro e w2 ⟨i, ok, rfl, hR, hC3⟩
  have hrr := hr.out i ok hR
  replace hC3 := Lib.hid (hC2.out.trans hC3)
  clear hr hR hsp
  cases ok with
  | true =>
    obtain rfl := hrr
    go_wp2_with fail
    go_ret
    exact ⟨rfl, hC3.out⟩
  | false =>
    obtain rfl := hrr
    go_wp2_with fail
    go_ret
    exact ⟨rfl, hC3.out⟩
set_option maxRecDepth 100000 in
set_option maxHeartbeats 4000000 in
theorem from_ref (w : World) (most : Nat) (hm : most ≤ 1048576) (T : List UInt8) (hT : T.length ≤ 100000) (x : Br) (hx : x.kind = 1 → x.pat.length ≤ 1024 ∧ ∃ ths, parse x.pat = some ths) (hl : x.pat.length ≤ 9223372036854775807) :
    Calls Try.prog 24 #[.int .i64 most, .string (bs T), .agg #[.int .i64 x.kind, .string (bs x.pat)]] w fun e w' => e = .returned (.int .i64 (fromV (fromOf most x T))) ∧ Chg [] w w' := by
  obtain ⟨kd, p⟩ := x
  simp only at hx hl ⊢
  by_cases h0 : kd = 0
  · subst h0; exact from_zero w most hm T hT p hl
  · by_cases h1 : kd = 1
    · subst h1
      obtain ⟨h2, ths, h3⟩ := hx rfl
      exact from_one w most hm T hT p h2 ths h3
    · have hr : fromV (fromOf most ⟨kd, p⟩ T) = -1 := by rw [from_never h0 h1]; rfl
      rw [hr]
      clear hr hx
      have hC0 := Lib.hid ((Chg.refl [] w).alloc (.cells #[.int .i64 kd, .string (bs p)] 45))
      go_enter Try.func24, Try.ntmps24
      go_wp2_with fail
      go_ret
      exact ⟨rfl, hC0.out⟩
end Mt
end Go.Proofs.Ytojgdmpnbgikeaa
namespace Go.Proofs.Ytojgdmpnbgikeaa
open Go.RowKit PMatchFeeds YtojgdmpnbgikeaaW.PrintWords
namespace Mt
open Kmp Glob
/-- What `Hit` tells. -/
def hitI (o : Option (Nat × Nat)) : Int := match o with | some p => p.1 | none => -1
theorem Upto.step {most : Nat} {l : List Br} {T : List UInt8} {k : Nat} {x : Br} (h : Upto most l T k) (hx : l[k]? = some x) (hf : fromOf most x T = none) : Upto most l T (k + 1) := fun j y hj hy => by
  rcases Nat.lt_or_ge j k with h1 | h1
  · exact h j y h1 hy
  · obtain rfl : j = k := by omega
    rw [hx] at hy; cases hy; exact hf
theorem bs_take (T : List UInt8) (k : Nat) : (bs T).extract 0 k = bs (T.take k) := by
  refine bs_of ?_
  rw [extract_list]
  show (T.take k).drop 0 = T.take k
  rfl
def LGood (l : List Br) : Prop := ∀ x ∈ l, (x.kind = 1 → x.pat.length ≤ 1024 ∧ ∃ ths, parse x.pat = some ths) ∧ x.pat.length ≤ 9223372036854775807
set_option maxRecDepth 100000 in
set_option maxHeartbeats 4000000 in
theorem hit_ref (w : World) (most : Nat) (hm : most ≤ 1048576) (T : List UInt8) (hT : T.length ≤ 100000) (l : List Br) (A : Option Addr) (n c : Nat) (hn : l.length = n) (hn9 : n ≤ 1000) (hS : Sl w 2 (.slice A n c) n (brCells l)) (hg : LGood l) :
    Calls Try.prog 13 #[.int .i64 most, .string (bs T), .slice A n c] w fun e w' => e = .returned (.tuple #[.int .i64 (hitI (hitOf most l T)), .int .i64 (of_ (hitOf most l T))]) ∧ Chg [] w w' := by
  have hfr := Lib.hid (fun W x (hx : x ∈ l) => from_ref W most hm T hT x (hg x hx).1 (hg x hx).2)
  have hnone := Lib.hid (fun h => hit_none (most := most) (l := l) (T := T) h)
  have hsome := Lib.hid (fun (i f : Nat) (x : Br) h1 h2 h3 => hit_some (most := most) (l := l) (T := T) (i := i) (f := f) (x := x) h1 h2 h3)
  generalize hitOf most l T = o at hnone hsome ⊢
  replace hS := Lib.hid hS
  clear hg hT
  replace hn := Lib.hid hn
  go_enter Try.func13, Try.ntmps13
  go_wp2_with fail
  go_loopw [8] (fun v8 wr => ∃ k : Nat, v8 = .int .i64 k ∧ k ≤ n ∧ Hid (Upto most l T k) ∧ Hid (Chg [] w wr)) (fun v8 _ => n - (intOf v8).toNat)
  case atStart => exact ⟨0, rfl, by omega, Lib.hid (fun j x hj => by omega), Lib.hid (Chg.refl _ _)⟩
  case round =>
    obtain ⟨k, rfl, hk, hU, hC⟩ := hrel
    by_cases hlt : k < n
    · obtain ⟨x, hx⟩ : ∃ x, l[k]? = some x := ⟨_, List.getElem?_eq_getElem (by rw [hn.out]; exact hlt)⟩
      obtain ⟨b, o', rfl, x0, x1⟩ := br_at (hS.out.chg hC.out (by simp)) hx
      have hc := fun W => hfr.out W x (List.mem_of_getElem? hx)
      replace hx := Lib.hid hx
      cases hf : fromOf most x T with
      | none =>
        rw [hf] at hc
        have hU1 := Lib.hid (hU.out.step hx.out hf)
        replace hc := Lib.hid hc
        clear hf hU hfr hx hnone hsome
        go_wp2_with fail
        refine (hc.out _).mono ?_
        rintro e w2 ⟨rfl, hC2⟩
        have hC3 := Lib.hid (hC.out.trans hC2)
        clear hC2 hc
        simp only [fromV]
        go_wp2_with fail
        go_roundw
        case rel => exact ⟨k + 1, by go_num, by omega, hU1, hC3⟩
        case measure => simp [intOf]; omega
      | some f =>
        rw [hf] at hc
        obtain rfl := hsome.out k f x hU.out hx.out hf
        replace hc := Lib.hid hc
        clear hf hU hfr hx hnone hsome
        go_wp2_with fail
        refine (hc.out _).mono ?_
        rintro e w2 ⟨rfl, hC2⟩
        have hC3 := Lib.hid (hC.out.trans hC2)
        clear hC2 hc
        simp only [fromV]
        go_wp2_with fail
        go_ret2
        exact ⟨rfl, hC3.out⟩
    · obtain rfl : k = n := by omega
      obtain rfl := hnone.out (by rw [hn.out]; exact hU.out)
      clear hU hfr hsome hnone
      go_wp2_with fail
      go_ret2
      exact ⟨rfl, hC.out⟩
def firstI (o : Option (Nat × Nat × Nat)) : Value := match o with | some p => .tuple #[.int .i64 p.1, .int .i64 p.2.1, .int .i64 p.2.2] | none => .tuple #[.int .i64 (-1), .int .i64 0, .int .i64 0]
set_option maxRecDepth 100000 in
set_option maxHeartbeats 4000000 in
theorem first_ref (w : World) (most : Nat) (hm : most ≤ 1048576) (b : List UInt8) (hb : b.length ≤ 100000) (l : List Br) (A : Option Addr) (n c : Nat) (hn : l.length = n) (hn9 : n ≤ 1000) (hS : Sl w 2 (.slice A n c) n (brCells l)) (hg : LGood l) :
    Calls Try.prog 19 #[.int .i64 most, .string (bs b), .slice A n c] w fun e w' => e = .returned (firstI (firstOf most l b)) ∧ Chg [] w w' := by
  have hh := Lib.hid (fun W (k : Nat) (hW : Chg [] w W) => by
    have := hit_ref W most hm (b.take k) (by rw [List.length_take]; omega) l A n c hn hn9 (hS.chg hW (by simp)) hg
    rwa [← bs_take] at this)
  have hnone := Lib.hid (fun h => first_none (most := most) (l := l) (b := b) h)
  have hsome := Lib.hid (fun (k : Nat) (p : Nat × Nat) h1 h2 h3 => first_hit (most := most) (l := l) (b := b) (k := k) (p := p) h1 h2 h3)
  generalize firstOf most l b = o at hnone hsome ⊢
  obtain ⟨t, ht⟩ : ∃ t, t = bs b := ⟨_, rfl⟩
  have hts : t.size = b.length := by rw [ht]; rfl
  rw [← ht] at hh ⊢
  rw [← hts] at hnone hsome hb
  clear ht hts hS
  go_enter Try.func19, Try.ntmps19
  go_wp2_with fail
  go_loopw [9] (fun v9 wr => ∃ k : Nat, v9 = .int .i64 k ∧ k ≤ t.size + 1 ∧ Hid (∀ j, j < k → hitOf most l (b.take j) = none) ∧ Hid (Chg [] w wr)) (fun v9 _ => t.size + 1 - (intOf v9).toNat)
  case atStart => exact ⟨0, rfl, by omega, Lib.hid (fun j hj => by omega), Lib.hid (Chg.refl _ _)⟩
  case round =>
    obtain ⟨k, rfl, hk, hU, hC⟩ := hrel
    by_cases hlt : k ≤ t.size
    · have hc := fun W hW => hh.out W k hW
      cases hf : hitOf most l (b.take k) with
      | none =>
        rw [hf] at hc
        have hU1 : Hid (∀ j, j < k + 1 → hitOf most l (b.take j) = none) := Lib.hid (fun j hj => by
          rcases Nat.lt_or_ge j k with h1 | h1
          · exact hU.out j h1
          · obtain rfl : j = k := by omega
            exact hf)
        replace hc := Lib.hid hc
        clear hf hU hh hnone hsome
        go_wp2_with fail
        refine (hc.out _ hC.out).mono ?_
        rintro e w2 ⟨rfl, hC2⟩
        have hC3 := Lib.hid (hC.out.trans hC2)
        clear hC2 hc
        simp only [hitI, of_]
        go_wp2_with fail
        go_roundw
        case rel => exact ⟨k + 1, by go_num, by omega, hU1, hC3⟩
        case measure => simp [intOf]; omega
      | some p =>
        rw [hf] at hc
        obtain rfl := hsome.out k p (by omega) hU.out hf
        replace hc := Lib.hid hc
        clear hf hU hh hnone hsome
        go_wp2_with fail
        refine (hc.out _ hC.out).mono ?_
        rintro e w2 ⟨rfl, hC2⟩
        have hC3 := Lib.hid (hC.out.trans hC2)
        clear hC2 hc
        simp only [hitI, of_]
        go_wp2_with fail
        go_ret3
        exact ⟨rfl, hC3.out⟩
    · obtain rfl := hnone.out (fun j hj => hU.out j (by omega))
      clear hU hh hsome hnone
      go_wp2_with fail
      go_ret3
      exact ⟨rfl, hC.out⟩
set_option maxRecDepth 100000 in
set_option maxHeartbeats 4000000 in
theorem check_ref (w : World) (most : Int) (m1 : -9223372036854775808 ≤ most) (m2 : most ≤ 9223372036854775807) (l : List Br) (A : Option Addr) (n c : Nat) (hn : l.length = n) (hn9 : n ≤ 9223372036854775807) (hS : Sl w 2 (.slice A n c) n (brCells l)) (hl : ∀ x ∈ l, x.pat.length ≤ 9223372036854775807) :
    Calls Try.prog 12 #[.int .i64 most, .slice A n c] w fun e w' => e = .returned (.int .i64 (newErr most l)) ∧ Chg [] w w' := by
  by_cases hm : 1 ≤ most ∧ most ≤ 1048576
  rotate_left
  · have he : newErr most l = 3 := by rw [newErr, if_pos hm]
    rw [he]
    have hor : most < 1 ∨ (1 ≤ most ∧ 1048576 < most) := by omega
    clear he hm hS
    rcases hor with h | h
    all_goals
      go_enter Try.func12, Try.ntmps12
      go_wp2_with fail
      go_ret
      exact ⟨rfl, Chg.refl _ _⟩
  obtain ⟨hm1, hm2⟩ := hm
  by_cases h64 : 64 < n
  · have he : newErr most l = 10 := by rw [newErr, if_neg (by omega), if_pos (by omega)]
    rw [he]
    clear he hS
    go_enter Try.func12, Try.ntmps12
    go_wp2_with fail
    go_ret
    exact ⟨rfl, Chg.refl _ _⟩
  have he : newErr most l = brErr l := by rw [newErr, if_neg (by omega), if_neg (by omega)]
  rw [he]
  have hend : brErr (l.drop n) = 0 := by rw [List.drop_eq_nil_of_le (by omega)]; rfl
  obtain ⟨r, hr⟩ : ∃ r, brErr l = r := ⟨_, rfl⟩
  rw [hr]
  replace hr := Lib.hid hr
  replace hS := Lib.hid hS
  replace hn := Lib.hid hn
  replace hl := Lib.hid hl
  replace hend := Lib.hid hend
  clear he hn9
  go_enter Try.func12, Try.ntmps12
  go_wp2_with fail
  go_loopw [5] (fun v5 wr => ∃ k : Nat, v5 = .int .i64 k ∧ k ≤ n ∧ Hid (brErr l = brErr (l.drop k)) ∧ Hid (Chg [] w wr)) (fun v5 _ => n - (intOf v5).toNat)
  case atStart => exact ⟨0, rfl, by omega, Lib.hid rfl, Lib.hid (Chg.refl _ _)⟩
  case round =>
    obtain ⟨k, rfl, hk, hU, hC⟩ := hrel
    by_cases hlt : k < n
    · obtain ⟨x, hx⟩ : ∃ x, l[k]? = some x := ⟨_, List.getElem?_eq_getElem (by rw [hn.out]; exact hlt)⟩
      obtain ⟨b, o', rfl, x0, x1⟩ := br_at (hS.out.chg hC.out (by simp)) hx
      have hxl := hl.out x (List.mem_of_getElem? hx)
      have hbad := fun e h => br_bad (e := e) hU.out hx h
      have hnext := br_next hU.out hx
      obtain ⟨kd, p⟩ := x
      simp only at x0 x1 hxl hbad hnext
      have hor : kd < 0 ∨ (0 ≤ kd ∧ 3 < kd) ∨ (0 ≤ kd ∧ kd ≤ 3) := by omega
      rcases hor with h | h | h
      · have := hbad 2 (.inl ⟨.inl h, rfl⟩)
        rw [hr.out] at this
        subst this
        clear hbad hnext hx hU hl hxl
        go_wp2_with fail
        go_ret
        exact ⟨rfl, hC.out⟩
      · have := hbad 2 (.inl ⟨.inr h.2, rfl⟩)
        rw [hr.out] at this
        subst this
        clear hbad hnext hx hU hl hxl
        go_wp2_with fail
        go_ret
        exact ⟨rfl, hC.out⟩
      · by_cases hk1 : kd = 1
        · subst hk1
          have hth := Lib.hid (rthings_err p hxl)
          obtain ⟨eo, heo⟩ : ∃ eo, errOf p = eo := ⟨_, rfl⟩
          rw [heo] at hth
          by_cases h0 : eo = 0
          · subst h0
            have hU1 := Lib.hid (hnext (by omega) (.inr heo))
            replace heo := Lib.hid heo
            clear hbad hnext hx hU hl hxl
            go_wp2_with fail
            refine (hth.out _).mono ?_
            rintro e w2 ⟨A2, c2, n2, rfl, -, hC2⟩
            have hC3 := Lib.hid (hC.out.trans hC2.out)
            clear hC2 hth
            go_wp2_with fail
            go_roundw
            case rel => exact ⟨k + 1, by go_num, by omega, hU1, hC3⟩
            case measure => simp [intOf]; omega
          · have := hbad eo (.inr ⟨by omega, rfl, heo, h0⟩)
            rw [hr.out] at this
            subst this
            have h0' : (r == 0) = false := by simpa using h0
            have h0'' : (r != 0) = true := by simpa using h0
            replace heo := Lib.hid heo
            clear hbad hnext hx hU hl hxl
            go_wp2_with fail
            refine (hth.out _).mono ?_
            rintro e w2 ⟨A2, c2, n2, rfl, -, hC2⟩
            have hC3 := Lib.hid (hC.out.trans hC2.out)
            clear hC2 hth
            go_wp2_with fail
            go_ret
            exact ⟨rfl, hC3.out⟩
        · have hU1 := Lib.hid (hnext (by omega) (.inl hk1))
          have hk1' : (kd == 1) = false := by simpa using hk1
          clear hbad hnext hx hU hl hxl
          go_wp2_with fail
          go_roundw
          case rel => exact ⟨k + 1, by go_num, by omega, hU1, hC⟩
          case measure => simp [intOf]; omega
    · obtain rfl : k = n := by omega
      have := hU.out
      rw [hr.out, hend.out] at this
      subst this
      clear hU
      go_wp2_with fail
      go_ret
      exact ⟨rfl, hC.out⟩
end Mt
end Go.Proofs.Ytojgdmpnbgikeaa
