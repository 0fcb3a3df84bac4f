/- Generic lemmas on worlds: what a call may have changed, slices that read as lists. No condition. -/
import Derived.WalkKit
import Derived.WalkSpells
import Derived.Deep.Draws
import Derived.Laws.CopyOwn
import Derived.Laws.AppendOwnNone
import Derived.Maps.AppendAt
import Derived.Laws.BytesArg
import Derived.Lib.Hide
import Derived.Outline
set_option linter.unusedVariables false
set_option linter.unusedSimpArgs false
namespace Go.Proofs.YtncoedoiakaedaaDoor
open Go.RowKit

/-- From `w` to `w'` only the blocks in `S` and new blocks may have changed. -/
structure Chg (S : List Nat) (w w' : World) : Prop where
  os : w'.os = w.os
  tape : w'.tape = w.tape
  output : w'.output = w.output
  size : w.heap.size ≤ w'.heap.size
  block : ∀ k, k < w.heap.size → k ∉ S → w'.heap[k]? = w.heap[k]?

theorem Chg.refl (S : List Nat) (w : World) : Chg S w w := ⟨rfl, rfl, rfl, Nat.le_refl _, fun _ _ _ => rfl⟩
theorem Chg.trans {S : List Nat} {a b c : World} (h : Chg S a b) (k : Chg S b c) : Chg S a c :=
  ⟨k.os.trans h.os, k.tape.trans h.tape, k.output.trans h.output, Nat.le_trans h.size k.size,
   fun i hi hn => (k.block i (Nat.lt_of_lt_of_le hi h.size) hn).trans (h.block i hi hn)⟩
theorem Chg.then {S S1 : List Nat} {a b c : World} (h : Chg S a b) (k : Chg S1 b c) (hs : ∀ x ∈ S1, x ∈ S ∨ a.heap.size ≤ x) : Chg S a c :=
  ⟨k.os.trans h.os, k.tape.trans h.tape, k.output.trans h.output, Nat.le_trans h.size k.size,
   fun i hi hn => (k.block i (Nat.lt_of_lt_of_le hi h.size) (fun hm => by
     rcases hs i hm with h1 | h1
     · exact hn h1
     · omega)).trans (h.block i hi hn)⟩
theorem Chg.mono {S S1 : List Nat} {a b : World} (h : Chg S a b) (hs : ∀ x ∈ S, x ∈ S1 ∨ a.heap.size ≤ x) : Chg S1 a b :=
  (Chg.refl S1 a).then h hs
theorem Chg.drew {S : List Nat} {a b : World} (h : Chg S a b) : Chg S a b.drew := ⟨h.os, h.tape, h.output, h.size, h.block⟩
theorem Chg.drewN {S : List Nat} {a b : World} (h : Chg S a b) (n : Nat) : Chg S a (b.drewN n) := ⟨h.os, h.tape, h.output, h.size, h.block⟩
theorem Chg.alloc {S : List Nat} {a b : World} (h : Chg S a b) (o : Obj) : Chg S a (b.alloc o) :=
  h.trans ⟨rfl, rfl, rfl, by simp, fun k hk _ => Below.heap_alloc _ _ _ (by omega)⟩
theorem Chg.setCell {S : List Nat} {a b : World} (h : Chg S a b) {p : Addr} (hp : p.block ∈ S ∨ a.heap.size ≤ p.block) (u : Value) : Chg S a (b.setCell p u) :=
  ⟨h.os, h.tape, h.output, by rw [World.size_setCell]; exact h.size, fun k hk hn => (Below.heap_setCell _ _ _ _ (fun e => by
    rcases hp with h1 | h1
    · exact hn (e ▸ h1)
    · omega)).trans (h.block k hk hn)⟩
theorem Chg.grown {S : List Nat} {a b c : World} {row : Option Nat} (h : Chg S a b) (hg : b.grownBy c row) (hr : ∀ k, row = some k → k ∈ S ∨ a.heap.size ≤ k) : Chg S a c :=
  ⟨hg.os.trans h.os, hg.tape.trans h.tape, hg.output.trans h.output, Nat.le_trans h.size hg.size, fun k hk hn =>
    (hg.block k (Nat.lt_of_lt_of_le hk h.size) (fun e => by
      rcases hr k e.symm with h1 | h1
      · exact hn h1
      · omega)).trans (h.block k hk hn)⟩
theorem Chg.below {a b : World} (h : Chg [] a b) : Below a.heap.size a b := ⟨h.os, h.tape, h.output, h.size, fun k hk => h.block k hk (by simp)⟩
theorem Chg.of_below {S : List Nat} {a b : World} (h : Below a.heap.size a b) : Chg S a b := ⟨h.os, h.tape, h.output, h.size, fun k hk _ => h.block k hk⟩
theorem Chg.heap {S : List Nat} {a b : World} (h : Chg S a b) {k : Nat} {o : Obj} (hk : a.heap[k]? = some o) (hn : k ∉ S) : b.heap[k]? = some o := by
  rw [h.block k (Array.getElem?_eq_some_iff.1 hk).1 hn]; exact hk
theorem lt_heap {w : World} {k : Nat} {o : Obj} (hk : w.heap[k]? = some o) : k < w.heap.size := (Array.getElem?_eq_some_iff.1 hk).1
theorem Chg.cell {S : List Nat} {a b : World} (h : Chg S a b) {p : Addr} {v : Value} (hc : a.cell? p = some v) (hn : p.block ∉ S) : b.cell? p = some v :=
  (World.cell?_of_block (h.block p.block (World.block_lt_of_cell? a p hc) hn)).trans hc
theorem Chg.grownBy {a b : World} (h : Chg [] a b) (row : Option Nat) : a.grownBy b row := ⟨h.os, h.tape, h.output, h.size, fun k hk _ => h.block k hk (by simp)⟩
theorem own_chg {S : List Nat} {w w' : World} {base : Nat} {e : TypeId} {size n : Nat} {v : Value} {xs : List Value} (h : w.ownsRow base e size v n xs) (hc : Chg S w w') (hn : ∀ k, v.ownBlock = some k → k ∉ S) : w'.ownsRow base e size v n xs := by
  refine ⟨h.1, ?_⟩
  rcases h.2 with h2 | ⟨g, cap, cur, rfl, hb, hg, rest⟩
  · exact .inl h2
  · exact .inr ⟨g, cap, cur, rfl, hb, hc.heap hg (hn g rfl), rest⟩

/-- What a block of cells is behind a store into it. -/
theorem blk_set {w : World} {g : Nat} {c : Array Value} {t : TypeId} {f : Nat × Nat} (h : w.heap[g]? = some (.cells c t f)) (i : Nat) (v : Value) :
    (w.setCell ⟨g, i, none⟩ v).heap[g]? = some (.cells (c.setIfInBounds i v) t f) := by
  simp [World.setCell, Array.getElem?_modify, h]
theorem blk_set_ne {w : World} {g k : Nat} {o : Obj} (h : w.heap[g]? = some o) (hk : g ≠ k) (i : Nat) (v : Value) :
    (w.setCell ⟨k, i, none⟩ v).heap[g]? = some o := by
  rw [Below.heap_setCell _ _ _ _ hk]; exact h
theorem blk_drew {w : World} {g : Nat} {o : Obj} (h : w.heap[g]? = some o) : w.drew.heap[g]? = some o := h
theorem blk_drewN {w : World} {g : Nat} {o : Obj} (h : w.heap[g]? = some o) (n : Nat) : (w.drewN n).heap[g]? = some o := h
theorem blk_alloc {w : World} {g : Nat} {o : Obj} (h : w.heap[g]? = some o) (o' : Obj) : (w.alloc o').heap[g]? = some o := by
  rw [Below.heap_alloc _ _ _ (lt_heap h)]; exact h
theorem blk_new (w : World) (o : Obj) : (w.alloc o).heap[w.heap.size]? = some o := heap_alloc_new w o

/-- The slice value `v` has `n` elements of `size` cells each, which read as `xs`. -/
def Sl (w : World) (size : Nat) (v : Value) (n : Nat) (xs : List Value) : Prop :=
  ∃ A c, v = .slice A n c ∧ (A = none → c = 0) ∧ n ≤ c ∧ c ≤ maxLen ∧ xs.length = n * size ∧ (0 < xs.length → ∃ ad, A = some ad ∧ ∀ j u, xs[j]? = some u → w.cell? (ad.add j) = some u)

theorem Sl.nil (w : World) (size : Nat) : Sl w size (.slice none 0 0) 0 [] := ⟨none, 0, rfl, by simp, by simp, by simp [maxLen], by simp, by simp⟩
theorem Sl.len {w : World} {size : Nat} {v : Value} {n : Nat} {xs : List Value} (h : Sl w size v n xs) : xs.length = n * size := by
  obtain ⟨_, _, _, _, _, _, h, _⟩ := h; exact h
theorem Sl.nil_of {w : World} {size : Nat} {v : Value} {n : Nat} {xs : List Value} (h : Sl w size v n xs) (hv : v.ownBlock = none) : v = .slice none 0 0 ∧ n = 0 ∧ xs = [] := by
  obtain ⟨A, c, rfl, h0, h1, _, h3, _⟩ := h
  cases A with
  | some a => simp [Value.ownBlock] at hv
  | none =>
    have := h0 rfl
    subst this
    obtain rfl : n = 0 := by omega
    exact ⟨rfl, rfl, List.eq_nil_of_length_eq_zero (by omega)⟩
theorem Sl.block {w : World} {size : Nat} {v : Value} {n : Nat} {xs : List Value} (h : Sl w size v n xs) (hx : 0 < xs.length) : ∃ k, v.ownBlock = some k ∧ k < w.heap.size := by
  obtain ⟨A, c, rfl, _, _, _, hl, hc⟩ := h
  obtain ⟨ad, rfl, hr⟩ := hc hx
  refine ⟨ad.block, rfl, ?_⟩
  have := hr 0 xs[0] (by simp)
  exact World.block_lt_of_cell? w _ (by simpa [Addr.add] using this)
theorem Sl.chg {S : List Nat} {w w' : World} {size : Nat} {v : Value} {n : Nat} {xs : List Value} (h : Sl w size v n xs) (hc : Chg S w w') (hn : 0 < xs.length → ∀ k, v.ownBlock = some k → k ∉ S) : Sl w' size v n xs := by
  obtain ⟨A, c, rfl, h0, h1, h2, h3, h4⟩ := h
  refine ⟨A, c, rfl, h0, h1, h2, h3, fun hx => ?_⟩
  obtain ⟨ad, rfl, hr⟩ := h4 hx
  refine ⟨ad, rfl, fun j u hu => hc.cell (hr j u hu) ?_⟩
  have : (ad.add j).block = ad.block := by unfold Addr.add; split <;> rfl
  rw [this]; exact hn hx _ rfl
theorem Sl.same {w w' : World} {size : Nat} {v : Value} {n : Nat} {xs : List Value} (h : Sl w size v n xs) (hc : ∀ p u, w.cell? p = some u → some p.block = v.ownBlock → w'.cell? p = some u) : Sl w' size v n xs := by
  obtain ⟨A, c, rfl, h0, h1, h2, h3, h4⟩ := h
  refine ⟨A, c, rfl, h0, h1, h2, h3, fun hx => ?_⟩
  obtain ⟨ad, rfl, hr⟩ := h4 hx
  refine ⟨ad, rfl, fun j u hu => hc _ _ (hr j u hu) ?_⟩
  have : (ad.add j).block = ad.block := by unfold Addr.add; split <;> rfl
  rw [this]; rfl
theorem addr_add_add (a : Addr) (i j : Nat) : (a.add i).add j = a.add (i + j) := by
  unfold Addr.add
  by_cases hi : i = 0 <;> by_cases hj : j = 0 <;> simp [hi, hj, Nat.add_assoc]
/-- A slice cut at its low end, as the walk spells it. -/
theorem Sl.from {w : World} {size : Nat} {A : Option Addr} {n c : Nat} {xs : List Value} (h : Sl w size (.slice A n c) n xs) (i : Nat) (hi : i ≤ n) (A' : Option Addr) (hA : A' = if c = i then A else A.map (·.add (i * size))) :
    Sl w size (.slice A' (n - i) (c - i)) (n - i) (xs.drop (i * size)) := by
  obtain ⟨A0, c0, e, h0, h1, h2, h3, h4⟩ := h
  obtain ⟨rfl, rfl⟩ : A0 = A ∧ c0 = c := by simp at e; exact ⟨e.1.symm, e.2.symm⟩
  have hm : n * size - i * size = (n - i) * size := by rw [Nat.sub_mul]
  refine ⟨A', c0 - i, rfl, fun e => ?_, by omega, by omega, by simp [h3, hm], fun hx => ?_⟩
  · have : A0 = none := by
      rw [hA] at e; split at e
      · exact e
      · cases A0 <;> simp at e ⊢
    have := h0 this; omega
  have hx' : i * size < xs.length := by have := hx; simp at this; omega
  obtain ⟨ad, rfl, hr⟩ := h4 (by omega)
  have hci : c0 ≠ i := by
    rintro rfl
    have : n = c0 := by omega
    subst this; omega
  rw [if_neg hci] at hA
  refine ⟨ad.add (i * size), by simp [hA], fun j u hu => ?_⟩
  rw [addr_add_add]
  exact hr _ _ (by rw [List.getElem?_drop] at hu; exact hu)
/-- A slice cut at its high end. -/
theorem Sl.upto {w : World} {size : Nat} {A : Option Addr} {n c : Nat} {xs : List Value} (h : Sl w size (.slice A n c) n xs) (i : Nat) (hi : i ≤ n) :
    Sl w size (.slice A i c) i (xs.take (i * size)) := by
  obtain ⟨A0, c0, e, h0, h1, h2, h3, h4⟩ := h
  obtain ⟨rfl, rfl⟩ : A0 = A ∧ c0 = c := by simp at e; exact ⟨e.1.symm, e.2.symm⟩
  have hm : i * size ≤ n * size := Nat.mul_le_mul_right _ hi
  refine ⟨A0, c0, rfl, h0, by omega, h2, by rw [List.length_take, h3]; omega, fun hx => ?_⟩
  have hx' : 0 < i * size ∧ 0 < xs.length := by rw [List.length_take] at hx; omega
  obtain ⟨ad, rfl, hr⟩ := h4 (by omega)
  refine ⟨ad, rfl, fun j u hu => hr _ _ ?_⟩
  rw [List.getElem?_take] at hu
  split at hu
  · exact hu
  · cases hu
/-- What is owned reads so. -/
theorem own_sl {w : World} {base : Nat} {e : TypeId} {size n : Nat} {v : Value} {xs : List Value} (h : w.ownsRow base e size v n xs) : Sl w size v n xs := by
  have hc := fun (g : Nat) (hg : v.ownBlock = some g) => h.cells hg
  rcases h.2 with ⟨rfl, rfl⟩ | ⟨g, cap, cur, rfl, _, _, h1, h2, _⟩
  · have : xs = [] := List.eq_nil_of_length_eq_zero (by have := h.1; omega)
    subst this; exact Sl.nil _ _
  · exact ⟨_, cap, rfl, by simp, h1, h2, h.1, fun _ => ⟨_, rfl, hc g rfl⟩⟩
/-- `s[i:]` as one run equation: the value is some slice. -/
theorem slice_from {P : Program} (t e : TypeId) (ht : P.underlying t = some (.slice e)) {z : Value} {size bytes : Nat} (hi : (P.info? e).map (fun i => (i.zero, i.size, i.bytes)) = some (some z, size, bytes))
    {w : World} {A : Option Addr} {n c : Nat} {xs : List Value} (h : Sl w size (.slice A n c) n xs) (i : Int) (h0 : 0 ≤ i) (n' : Nat) (h1 : i + n' = n) :
    ∃ A' c', (∀ w' : World, (Instr.slice t (.slice A n c) (some (.int .i64 i)) none none).run P w' = .ok (.slice A' n' c') w') ∧ Sl w size (.slice A' n' c') n' (xs.drop (i.toNat * size)) ∧ (Value.slice A' n' c').ownBlock = (Value.slice A n c).ownBlock := by
  have he : P.elem t = e := by simp [Program.elem, ht]
  obtain rfl : n' = n - i.toNat := by omega
  refine ⟨if c = i.toNat then A else A.map (·.add (i.toNat * size)), c - i.toNat, fun w' => ?_, h.from i.toNat (by omega) _ rfl, ?_⟩
  · rw [run_slice_l w' t A n c (by rw [he]; exact ht) .i64 i h0 (by omega)]
    obtain ⟨i0, hi0, hz⟩ := Option.map_eq_some_iff.1 hi
    simp only [Prod.mk.injEq] at hz
    rw [he]
    simp [sizeOf, typeInfo, hi0, Result.andThen, sliced, hz.2.1]
  · cases A with
    | none => simp [Value.ownBlock]
    | some a =>
      have : (a.add (i.toNat * size)).block = a.block := by unfold Addr.add; split <;> rfl
      split <;> simp [Value.ownBlock, this]
/-- `s[:i]` as one run equation. -/
theorem slice_upto {P : Program} (t e : TypeId) (ht : P.underlying t = some (.slice e)) {z : Value} {size bytes : Nat} (hi : (P.info? e).map (fun i => (i.zero, i.size, i.bytes)) = some (some z, size, bytes))
    {w : World} {A : Option Addr} {n c : Nat} {xs : List Value} (h : Sl w size (.slice A n c) n xs) (i : Int) (h0 : 0 ≤ i) (n' : Nat) (h1 : i = n') (h2 : n' ≤ n) :
    (∀ w' : World, (Instr.slice t (.slice A n c) none (some (.int .i64 i)) none).run P w' = .ok (.slice A n' c) w') ∧ Sl w size (.slice A n' c) n' (xs.take (n' * size)) ∧ (Value.slice A n' c).ownBlock = (Value.slice A n c).ownBlock := by
  have he : P.elem t = e := by simp [Program.elem, ht]
  subst h1
  have hc : n ≤ c := by obtain ⟨A0, c0, e, _, h1, _⟩ := h; simp at e; omega
  refine ⟨fun w' => ?_, h.upto n' h2, by cases A <;> rfl⟩
  rw [run_slice_h w' t A n c (by rw [he]; exact ht) .i64 n' h0 (by omega)]
  obtain ⟨i0, hi0, hz⟩ := Option.map_eq_some_iff.1 hi
  simp only [Prod.mk.injEq] at hz
  rw [he]
  have hA : A.map (·.add 0) = A := by cases A <;> simp [Addr.add]
  simp [sizeOf, typeInfo, hi0, Result.andThen, sliced, hz.2.1, hA]
theorem own_take {w : World} {base : Nat} {e : TypeId} {size n c : Nat} {A : Option Addr} {xs : List Value} (h : w.ownsRow base e size (.slice A n c) n xs) (k : Nat) (hk : k ≤ n) :
    w.ownsRow base e size (.slice A k c) k (xs.take (k * size)) := by
  have hm : k * size ≤ n * size := Nat.mul_le_mul_right _ hk
  refine ⟨by rw [List.length_take, h.1]; omega, ?_⟩
  rcases h.2 with ⟨hv, hn⟩ | ⟨g, cap, cur, hv, hb, hg, h1, h2, h3, h4⟩
  · left
    simp only [Value.slice.injEq] at hv
    obtain ⟨rfl, rfl, rfl⟩ := hv
    obtain rfl : k = 0 := by omega
    exact ⟨rfl, rfl⟩
  · right
    simp only [Value.slice.injEq] at hv
    obtain ⟨rfl, _, rfl⟩ := hv
    refine ⟨g, c, cur, rfl, hb, hg, by omega, h2, h3, ?_⟩
    rw [← h4, List.take_take, Nat.min_eq_left hm]
theorem own_set {w : World} {base : Nat} {e : TypeId} {size n : Nat} {v : Value} {xs : List Value} (h : w.ownsRow base e size v n xs) (g i : Nat) (u : Value) (hg : v.ownBlock ≠ some g) :
    (w.setCell ⟨g, i, none⟩ u).ownsRow base e size v n xs :=
  own_chg h ((Chg.refl [g] w).setCell (.inl (by simp)) u) (fun k hk => by rintro hm; simp at hm; subst hm; exact hg hk)
theorem own_drew {w : World} {base : Nat} {e : TypeId} {size n : Nat} {v : Value} {xs : List Value} (h : w.ownsRow base e size v n xs) : w.drew.ownsRow base e size v n xs := h
theorem own_drewN {w : World} {base : Nat} {e : TypeId} {size n : Nat} {v : Value} {xs : List Value} (h : w.ownsRow base e size v n xs) (k : Nat) : (w.drewN k).ownsRow base e size v n xs := h
theorem ownBlock_len (A : Option Addr) (n c n' c' : Nat) : (Value.slice A n c).ownBlock = (Value.slice A n' c').ownBlock := by cases A <;> rfl
def cellsOf (k : IntKind) (xs : List Int) : List Value := xs.map fun x => .int k x
@[simp] theorem cellsOf_nil (k : IntKind) : cellsOf k [] = [] := rfl
@[simp] theorem cellsOf_length (k : IntKind) (xs : List Int) : (cellsOf k xs).length = xs.length := by simp [cellsOf]
theorem cellsOf_append (k : IntKind) (xs ys : List Int) : cellsOf k (xs ++ ys) = cellsOf k xs ++ cellsOf k ys := by simp [cellsOf]
theorem cellsOf_drop (k : IntKind) (xs : List Int) (i : Nat) : (cellsOf k xs).drop i = cellsOf k (xs.drop i) := by simp [cellsOf]
theorem cellsOf_take (k : IntKind) (xs : List Int) (i : Nat) : (cellsOf k xs).take i = cellsOf k (xs.take i) := by simp [cellsOf]
theorem cellsOf_get {k : IntKind} {xs : List Int} {j : Nat} (h : j < xs.length) : (cellsOf k xs)[j]? = some (.int k xs[j]) := by simp [cellsOf, h]
theorem cellsOf_one {k : IntKind} {xs : List Int} : ∀ u ∈ cellsOf k xs, u.oneCell' = true := by
  intro u hu; simp [cellsOf] at hu; obtain ⟨x, _, rfl⟩ := hu; rfl
theorem own_form {w : World} {base : Nat} {e : TypeId} {size n : Nat} {v : Value} {xs : List Value} (h : w.ownsRow base e size v n xs) : ∃ A c, v = .slice A n c := by
  rcases h.2 with ⟨rfl, rfl⟩ | ⟨g, cap, cur, rfl, _⟩
  · exact ⟨none, 0, rfl⟩
  · exact ⟨_, cap, rfl⟩
theorem Chg.of_grown {a b : World} {row : Option Nat} (hg : a.grownBy b row) : Chg row.toList a b :=
  ⟨hg.os, hg.tape, hg.output, hg.size, fun k hk hn => hg.block k hk (fun e => hn (by rw [← e]; simp))⟩
/-- `append(s, x...)`: `s` is owned, `x` reads as a list (nil and empty, too). -/
theorem wpList_append_sl {P : Program} {w : World} {ops : Array Oper} {rest : List Oper} {o : Oper} {a : Act} {Q : Exit → Act → World → Prop} (hgd : o.guard = none) (s x : Operand) (t : TypeId)
    (ho : o.op = .call { callee := .builtin .append, args := #[s, x], argTypes := #[t, t] })
    (base : Nat) (e : TypeId) (z : Value) (size bytes : Nat) (ht : P.underlying t = some (.slice e)) (hi : (P.info? e).map (fun i => (i.zero, i.size, i.bytes)) = some (some z, size, bytes))
    (hzs : z.cells.size = size) (hsz : 0 < size)
    (v : Value) (n : Nat) (xs : List Value) (hs : a.eval s = v) (hown : w.ownsRow base e size v n xs)
    (vx : Value) (m : Nat) (news : List Value) (hx : a.eval x = vx) (hsl : Sl w size vx m news) (h1 : ∀ u ∈ news, u.oneCell' = true)
    (nn : Nat) (hnn : nn = n + m) (hbytes : nn * bytes ≤ 140737488355328) (hby : 0 < bytes) (hbase : base ≤ w.heap.size)
    (h : ∀ A' c' w', w'.ownsRow base e size (.slice A' nn c') nn (xs ++ news) → Chg v.ownBlock.toList w w' →
      ((Value.slice A' nn c').ownBlock = v.ownBlock ∨ ∀ q, (Value.slice A' nn c').ownBlock = some q → w.heap.size ≤ q) → wpList P ops Q rest (a.put o.dst (.slice A' nn c')) w') :
    wpList P ops Q (o :: rest) a w := by
  obtain ⟨i0, hi0, hz0, hz1, hz2⟩ := info_parts hi
  subst hnn
  cases hb : vx.ownBlock with
  | none =>
    obtain ⟨rfl, rfl, rfl⟩ := hsl.nil_of hb
    obtain ⟨A, c, rfl⟩ := own_form hown
    refine wpList_append_own_none hgd s x t ho base e i0 size ht hi0 _ n xs hs hown hx ?_
    exact h A c w (by simpa using hown) (Chg.refl _ _) (.inl rfl)
  | some k =>
    obtain ⟨A, c, rfl, _, _, _, hl, hr⟩ := id hsl
    cases A with
    | none => simp [Value.ownBlock] at hb
    | some ad =>
      have hnews : ∀ j u, news[j]? = some u → w.cell? (ad.add j) = some u := by
        intro j u hu
        obtain ⟨ad', e, hr⟩ := hr (by have := (List.getElem?_eq_some_iff.1 hu).1; omega)
        simp only [Option.some.injEq] at e; subst e
        exact hr j u hu
      have hm : (n + m) * 1 ≤ (n + m) * bytes := Nat.mul_le_mul_left _ hby
      refine wpList_append_own_at w hgd s x t ho base e i0 z size bytes ht hi0 hz0 hz1 hz2 hzs hsz v n xs hs hown ad m c news hx hl hnews h1 (by unfold maxLen; omega) hbytes hbase ?_
      intro v' w' hown' hg _ hat
      obtain ⟨A', c', rfl⟩ := own_form hown'
      refine h A' c' w' hown' (Chg.of_grown hg) ?_
      rcases hat with hat | hat
      · exact .inl hat
      · right; intro q hq; rw [hat] at hq; simp at hq; omega
/-- `copy(d, s)` within rows that are known, as one step of a region that draws its order: the world is told. -/
theorem step_copy_row {P : Program} {ops : Array Oper} {o : Oper} {a : Act} {w : World} {K : Act → World → Prop} {Q : Exit → Act → World → Prop} {E : Prop} (hgd : o.guard = none) (d s : Operand) (dT sT : TypeId)
    (ho : o.op = .call { callee := .builtin .copy, args := #[d, s], argTypes := #[dT, sT] }) (elem : TypeId) (hu : P.underlying dT = some (.slice elem)) (hsz : (P.info? elem).map (·.size) = some 1)
    (sp : Option Addr) (dLen dCap sLen sCap : Nat) (g off : Nat) (hd : a.eval d = .slice (some ⟨g, off, none⟩) dLen dCap) (hs : a.eval s = .slice sp sLen sCap)
    (cur : Array Value) (t : TypeId) (hg : w.heap[g]? = some (.cells cur t (0, 0))) (cs : List Value) (hn : cs.length = Nat.min sLen dLen)
    (hS : Sl w 1 (.slice sp sLen sCap) sLen cs) (hsd : sLen ≤ dLen)
    (hfit : off + cs.length ≤ cur.size) (h1 : ∀ v ∈ cs, v.oneCell' = true)
    (h : ∀ w', w'.heap[g]? = some (.cells (cur.toList.take off ++ (cs ++ cur.toList.drop (off + cs.length))).toArray t (0, 0)) → Chg [g] w w' → K (a.put o.dst (goInt cs.length)) w') :
    if Region.wanted o (yielded ops a.tmps) = true then Oper.wp P o a w K Q else E := by
  have hw : Region.wanted o (yielded ops a.tmps) = true := by simp [Region.wanted, hgd]
  rw [if_pos hw]
  by_cases h0 : cs.length = 0
  · obtain rfl : cs = [] := List.eq_nil_of_length_eq_zero h0
    have hrun := run_copy_none (P := P) w dT sT o.type elem (some ⟨g, off, none⟩) sp dLen dCap sLen sCap hu hsz (by simpa using hn.symm)
    unfold Oper.wp
    simp [execOp, ho, resolve, invoke, builtin, hd, hs, hrun, Result.andThen]
    exact h w (by simpa using hg) (Chg.refl _ _)
  · obtain ⟨A, c, e, _, _, _, hl, hr⟩ := hS
    obtain ⟨ad, hA, hsrc⟩ := hr (by omega)
    obtain ⟨rfl, rfl⟩ : sp = A ∧ sCap = c := by simpa using e
    subst hA
    have hrun := run_copy_row (P := P) w dT sT o.type elem g off dLen dCap ad sLen sCap cur t cs hu hsz hg hn hsrc hfit h1
    unfold Oper.wp
    simp [execOp, ho, resolve, invoke, builtin, hd, hs, hrun, Result.andThen]
    refine h _ (by simpa using setRow_heap w g _ _ t _ hg) ⟨rfl, rfl, rfl, by simp [World.setRow], fun k hk hm => setRow_other w g k _ (by simpa using hm)⟩
/-- `copy(d, s)` within rows that are known, as a law of the walk. -/
theorem wpList_copy_row {P : Program} {ops : Array Oper} {o : Oper} {a : Act} {w : World} {rest : List Oper} {Q : Exit → Act → World → Prop} (hgd : o.guard = none) (d s : Operand) (dT sT : TypeId)
    (ho : o.op = .call { callee := .builtin .copy, args := #[d, s], argTypes := #[dT, sT] }) (elem : TypeId) (hu : P.underlying dT = some (.slice elem)) (hsz : (P.info? elem).map (·.size) = some 1)
    (sp : Option Addr) (dLen dCap sLen sCap : Nat) (g off : Nat) (hd : a.eval d = .slice (some ⟨g, off, none⟩) dLen dCap) (hs : a.eval s = .slice sp sLen sCap)
    (cur : Array Value) (t : TypeId) (hg : w.heap[g]? = some (.cells cur t (0, 0))) (cs : List Value) (hn : cs.length = Nat.min sLen dLen)
    (hS : Sl w 1 (.slice sp sLen sCap) sLen cs) (hsd : sLen ≤ dLen)
    (hfit : off + cs.length ≤ cur.size) (h1 : ∀ v ∈ cs, v.oneCell' = true)
    (h : ∀ w', w'.heap[g]? = some (.cells (cur.toList.take off ++ (cs ++ cur.toList.drop (off + cs.length))).toArray t (0, 0)) → Chg [g] w w' → wpList P ops Q rest (a.put o.dst (goInt cs.length)) w') : wpList P ops Q (o :: rest) a w := by
  refine wpList_plain hgd fun K hK => ?_
  by_cases h0 : cs.length = 0
  · obtain rfl : cs = [] := List.eq_nil_of_length_eq_zero h0
    have hrun := run_copy_none (P := P) w dT sT o.type elem (some ⟨g, off, none⟩) sp dLen dCap sLen sCap hu hsz (by simpa using hn.symm)
    unfold Oper.wp
    simp [execOp, ho, resolve, invoke, builtin, hd, hs, hrun, Result.andThen]
    exact hK _ _ (h w (by simpa using hg) (Chg.refl _ _))
  · obtain ⟨A, c, e, _, _, _, hl, hr⟩ := hS
    obtain ⟨ad, hA, hsrc⟩ := hr (by omega)
    obtain ⟨rfl, rfl⟩ : sp = A ∧ sCap = c := by simpa using e
    subst hA
    have hrun := run_copy_row (P := P) w dT sT o.type elem g off dLen dCap ad sLen sCap cur t cs hu hsz hg hn hsrc hfit h1
    unfold Oper.wp
    simp [execOp, ho, resolve, invoke, builtin, hd, hs, hrun, Result.andThen]
    refine hK _ _ (h _ (by simpa using setRow_heap w g _ _ t _ hg) ⟨rfl, rfl, rfl, by simp [World.setRow], fun k hk hm => setRow_other w g k _ (by simpa using hm)⟩)
/-- `string(b)`. -/
theorem sl_string {P : Program} {w : World} {A : Option Addr} {n c : Nat} {xs : List Int} (h : Sl w 1 (.slice A n c) n (cellsOf .u8 xs)) (src e dst : TypeId) (hs : P.underlying src = some (.slice e)) (he : P.underlying e = some (.int .u8)) (hd : P.underlying dst = some .string) :
    (convert src dst (.slice A n c)).run P w = .ok (.string (strOfNums xs)) w := by
  have hl : xs.length = n := by have := h.len; simpa using this
  obtain ⟨A0, c0, e0, h0, h1, h2, h3, h4⟩ := h
  obtain ⟨rfl, rfl⟩ : A0 = A ∧ c0 = c := by simp at e0; exact ⟨e0.1.symm, e0.2.symm⟩
  by_cases hn : n = 0
  · subst hn
    obtain rfl : xs = [] := List.eq_nil_of_length_eq_zero hl
    cases A0 with
    | none => exact run_convert_bytes_nil w src e hs he 0 c0 dst hd
    | some ad =>
      rw [run_convert_bytes_string w src dst e _ 0 c0 hs he hd]
      have : (loadCells ad 0).run P w = .ok #[] w := by
        have := run_loadCells_list (P := P) w ad [] (by simp)
        simpa using this
      rw [run_bytesToString w ad 0 c0 [] (by simpa using this)]
      rfl
  · obtain ⟨ad, rfl, hr⟩ := h4 (by simp; omega)
    have hspot : ad.spot = none := by
      have := hr 0 _ (cellsOf_get (by omega))
      exact World.cell?_spot (a := ad) (by simpa [Addr.add] using this)
    obtain ⟨b, off, spot⟩ := ad
    simp only at hspot
    subst hspot
    refine run_convert_bytes_arg w src e hs he b off n c0 xs hl (fun i hi => ?_) dst hd
    have := hr i _ (cellsOf_get (by omega))
    have ha : (⟨b, off, none⟩ : Addr).add i = ⟨b, off + i, none⟩ := by unfold Addr.add; split <;> simp_all
    rw [ha] at this
    rw [this]; simp [List.getD, List.getElem?_eq_getElem (show i < xs.length by omega)]
/-- A fresh block of cells reads as a slice. -/
theorem sl_new (w : World) (cs : List Value) (e : TypeId) (n : Nat) (hn : cs.length = n) (hm : n ≤ maxLen) : Sl (w.alloc (.cells cs.toArray e)) 1 (.slice (some ⟨w.heap.size, 0, none⟩) n n) n cs := by
  refine ⟨_, n, rfl, by simp, Nat.le_refl _, hm, by simpa using hn, fun _ => ⟨_, rfl, fun j u hu => ?_⟩⟩
  have ha : (⟨w.heap.size, 0, none⟩ : Addr).add j = ⟨w.heap.size, j, none⟩ := by unfold Addr.add; split <;> simp_all
  rw [ha]
  simp only [World.cell?, blk_new]
  simpa using hu
end Go.Proofs.YtncoedoiakaedaaDoor
