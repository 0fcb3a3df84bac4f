/- Generic lemmas, third part: elements of several cells. No condition. -/
import Derived.Test.YtncoedoiakaedaaDoorLib2
set_option linter.unusedVariables false
set_option linter.unusedSimpArgs false
namespace Go.Proofs.YtncoedoiakaedaaDoor
open Go.RowKit
theorem fold_set (l : List Value) : ∀ (k : Nat) (acc : Array Value), k + l.length ≤ acc.size → (l.zipIdx k).foldl (fun cs (p : Value × Nat) => cs.setIfInBounds p.2 p.1) acc = (acc.toList.take k ++ l ++ acc.toList.drop (k + l.length)).toArray := by
  induction l with
  | nil => intro k acc h; simp
  | cons v l ih =>
    intro k acc h
    simp only [List.length_cons] at h
    rw [List.zipIdx_cons, List.foldl_cons, ih (k + 1) _ (by simp; omega)]
    apply Array.ext'
    simp only [Array.toList_setIfInBounds, List.toList_toArray, List.length_cons]
    have hk : k < acc.toList.length := by simp; omega
    have e1 : (acc.toList.set k v).take (k + 1) = acc.toList.take k ++ [v] := by
      rw [List.take_add_one, List.getElem?_set_self hk, List.take_set_of_le (Nat.le_refl _)]; rfl
    rw [e1, List.drop_set_of_lt (by omega), show k + 1 + l.length = k + (l.length + 1) by omega]
    simp
theorem fill_whole (row : List Value) (zero : Array Value) (hz : zero.size = row.length) : Instr.fill (fun i => some (i * row.length, row.length)) zero [(0, .agg row.toArray)] = some row.toArray := by
  have hf := fold_set row 0 zero (by omega)
  simp [Instr.fill, Value.cells, hz]
  rw [hf, List.take_zero, List.nil_append, List.drop_eq_nil_of_le (by simp; omega), List.append_nil]
theorem run_build_one {P : Program} (t e : TypeId) (ht : P.underlying t = some (.slice e)) (i : TypeInfo) (hi : P.info? e = some i) (z : Value) (hz : i.zero = some z) (row : List Value) (hr : row.length = i.size) (h0 : 0 < i.size) (hm : i.size ≤ 2 ^ 24) (w : World) :
    (Instr.buildSlice t 1 #[(0, .agg row.toArray)]).run P w = .ok (.slice (some ⟨w.heap.size, 0, none⟩) 1 1) (w.alloc (.cells row.toArray e)) := by
  have hfw := fill_whole row ((Array.range (1 * i.size)).map (z.cells[· % z.cells.size]!)) (by simp [hr])
  unfold Instr.buildSlice
  simp [run_underlying ht, sizeOf, typeInfo, hi, hz, zeroValue, Result.andThen, show ¬ (2 ^ 24 < i.size) by omega, show i.size ≠ 0 by omega]
  rw [hr, Nat.one_mul] at hfw
  rw [hfw]
  simp [newRow, newObj, Result.andThen]
  rfl
theorem sl_wide_new (w : World) (row : List Value) (e : TypeId) (size : Nat) (hn : row.length = size) : Sl (w.alloc (.cells row.toArray e)) size (.slice (some ⟨w.heap.size, 0, none⟩) 1 1) 1 row := by
  refine ⟨_, 1, rfl, by simp, Nat.le_refl _, by decide, by omega, fun _ => ⟨_, rfl, fun j u hu => ?_⟩⟩
  have ha : (⟨w.heap.size, 0, none⟩ : Addr).add j = ⟨w.heap.size, j, none⟩ := by unfold Addr.add; split <;> simp_all
  rw [ha]
  simp only [World.cell?, blk_new]
  simpa using hu
/-- `append(s, x)` of one wide element onto an owned row. -/
theorem wpList_one_more {P : Program} {ops : Array Oper} {rest : List Oper} {o1 o2 : Oper} {a : Act} {w : World} {Q : Exit → Act → World → Prop} (hg1 : o1.guard = none) (hg2 : o2.guard = none)
    (t e : TypeId) (x s : Operand) (i1 : Nat) (ho1 : o1.op = .buildSlice t 1 #[(0, x)]) (ho2 : o2.op = .call { callee := .builtin .append, args := #[s, .tmp i1], argTypes := #[t, t] })
    (base : Nat) (z : Value) (size bytes : Nat) (ht : P.underlying t = some (.slice e)) (hi : (P.info? e).map (fun i => (i.zero, i.size, i.bytes)) = some (some z, size, bytes))
    (hzs : z.cells.size = size) (hsz : 0 < size) (hm : size ≤ 2 ^ 24) (row : List Value) (hr : row.length = size) (h1 : ∀ u ∈ row, u.oneCell' = true)
    (v : Value) (n : Nat) (xs : List Value) (hown : w.ownsRow base e size v n xs) (hx : a.eval x = .agg row.toArray)
    (hs : (a.put o1.dst (.slice (some ⟨w.heap.size, 0, none⟩) 1 1)).eval s = v) (he : (a.put o1.dst (.slice (some ⟨w.heap.size, 0, none⟩) 1 1)).eval (.tmp i1) = .slice (some ⟨w.heap.size, 0, none⟩) 1 1)
    (hbytes : (n + 1) * bytes ≤ 140737488355328) (hby : 0 < bytes) (hbase : base ≤ w.heap.size)
    (h : ∀ A' c' w', w'.ownsRow base e size (.slice A' (n + 1) c') (n + 1) (xs ++ row) → Chg v.ownBlock.toList w w' →
      wpList P ops Q rest ((a.put o1.dst (.slice (some ⟨w.heap.size, 0, none⟩) 1 1)).put o2.dst (.slice A' (n + 1) c')) w') : wpList P ops Q (o1 :: o2 :: rest) a w := by
  obtain ⟨i0, hi0, hz0, hz1, hz2⟩ := info_parts hi
  have hb := run_build_one (P := P) t e ht i0 hi0 z hz0 row (by rw [hz1]; exact hr) (by omega) (by omega) w
  refine wpList_plain hg1 fun K hK => ?_
  unfold Oper.wp execOp
  simp [ho1, hx, hb, Result.andThen]
  refine hK _ _ ?_
  have hc := (Chg.refl v.ownBlock.toList w).alloc (.cells row.toArray e)
  exact wpList_append_sl hg2 s (.tmp i1) t ho2 base e z size bytes ht hi hzs hsz v n xs hs (hown.alloc _) _ 1 row he (sl_wide_new w row e size hr) h1 (n + 1) rfl hbytes hby (by have := hc.size; omega)
    (fun A' c' w' k1 k2 _ => h A' c' w' k1 (hc.trans k2))

/-- `append` onto an owned row, as a run equation. -/
theorem run_append_sl {P : Program} {w : World} (t ty : TypeId)
    (base : Nat) (e : TypeId) (z : Value) (size bytes : Nat) (ht : P.underlying t = some (.slice e)) (hi : (P.info? e).map (fun i => (i.zero, i.size, i.bytes)) = some (some z, size, bytes))
    (hzs : z.cells.size = size) (hsz : 0 < size) (v : Value) (n : Nat) (xs : List Value) (hown : w.ownsRow base e size v n xs)
    (vx : Value) (m : Nat) (news : List Value) (hsl : Sl w size vx m news) (h1 : ∀ u ∈ news, u.oneCell' = true)
    (nn : Nat) (hnn : nn = n + m) (hbytes : nn * bytes ≤ 140737488355328) (hby : 0 < bytes) (hbase : base ≤ w.heap.size) :
    ∃ A' c' w', (Builtin.append_ #[t, t] ty #[v, vx]).run P w = .ok (.slice A' nn c') w' ∧ w'.ownsRow base e size (.slice A' nn c') nn (xs ++ news) ∧ Chg v.ownBlock.toList w w' ∧
      ((Value.slice A' nn c').ownBlock = v.ownBlock ∨ ∀ q, (Value.slice A' nn c').ownBlock = some q → w.heap.size ≤ q) := by
  obtain ⟨i0, hi0, hz0, hz1, hz2⟩ := info_parts hi
  subst hnn
  cases hb : vx.ownBlock with
  | none =>
    obtain ⟨rfl, rfl, rfl⟩ := hsl.nil_of hb
    obtain ⟨A, c, rfl⟩ := own_form hown
    exact ⟨A, c, w, run_append_owned_none (P := P) (w := w) base t ty e i0 size ht hi0 _ n xs hown, by simpa using hown, Chg.refl _ _, .inl rfl⟩
  | some k =>
    obtain ⟨A, c, rfl, _, _, _, hl, hr⟩ := id hsl
    cases A with
    | none => simp [Value.ownBlock] at hb
    | some ad =>
      have hnews : ∀ j u, news[j]? = some u → w.cell? (ad.add j) = some u := by
        intro j u hu
        obtain ⟨ad', e, hr⟩ := hr (by have := (List.getElem?_eq_some_iff.1 hu).1; omega)
        simp only [Option.some.injEq] at e; subst e
        exact hr j u hu
      have hm : (n + m) * 1 ≤ (n + m) * bytes := Nat.mul_le_mul_left _ hby
      obtain ⟨v', w', hrun, hown', hg, _, hat⟩ := run_append_own_at (P := P) w base t ty e i0 z size bytes ht hi0 hz0 hz1 hz2 hzs hsz v n xs hown ad m c news hl hnews h1 (by unfold maxLen; omega) hbytes hbase
      obtain ⟨A', c', rfl⟩ := own_form hown'
      refine ⟨A', c', w', hrun, hown', Chg.of_grown hg, ?_⟩
      rcases hat with hat | hat
      · exact .inl hat
      · right; intro q hq; rw [hat] at hq; simp at hq; omega
/-- `append` onto an owned row, as one step of a region that draws its order. -/
theorem step_append_sl {P : Program} {ops : Array Oper} {o : Oper} {a : Act} {w : World} {K : Act → World → Prop} {Q : Exit → Act → World → Prop} {E : Prop} (hgd : o.guard = none) (s x : Operand) (t : TypeId)
    (ho : o.op = .call { callee := .builtin .append, args := #[s, x], argTypes := #[t, t] })
    (base : Nat) (e : TypeId) (z : Value) (size bytes : Nat) (ht : P.underlying t = some (.slice e)) (hi : (P.info? e).map (fun i => (i.zero, i.size, i.bytes)) = some (some z, size, bytes))
    (hzs : z.cells.size = size) (hsz : 0 < size)
    (v : Value) (n : Nat) (xs : List Value) (hown : w.ownsRow base e size v n xs) (hs : a.eval s = v)
    (vx : Value) (m : Nat) (news : List Value) (hsl : Sl w size vx m news) (hx : a.eval x = vx) (h1 : ∀ u ∈ news, u.oneCell' = true)
    (nn : Nat) (hnn : nn = n + m) (hbytes : nn * bytes ≤ 140737488355328) (hby : 0 < bytes) (hbase : base ≤ w.heap.size)
    (h : ∀ A' c' w', w'.ownsRow base e size (.slice A' nn c') nn (xs ++ news) → Chg v.ownBlock.toList w w' →
      ((Value.slice A' nn c').ownBlock = v.ownBlock ∨ ∀ q, (Value.slice A' nn c').ownBlock = some q → w.heap.size ≤ q) → K (a.put o.dst (.slice A' nn c')) w') :
    if Region.wanted o (yielded ops a.tmps) = true then Oper.wp P o a w K Q else E := by
  have hw : Region.wanted o (yielded ops a.tmps) = true := by simp [Region.wanted, hgd]
  rw [if_pos hw]
  obtain ⟨A', c', w', hrun, h2, h3, h4⟩ := run_append_sl (P := P) (w := w) t o.type base e z size bytes ht hi hzs hsz v n xs hown vx m news hsl h1 nn hnn hbytes hby hbase
  unfold Oper.wp execOp
  simp only [ho, resolve, invoke, builtin, Sem.run_bind, Sem.run_pure, Result.andThen_ok, List.map_toArray, List.map_cons, List.map_nil, hs, hx, hrun]
  exact h A' c' w' h2 h3 h4

end Go.Proofs.YtncoedoiakaedaaDoor
