/- Generic lemmas: a map keyed by strings that the call itself makes, its entries told one by one. Conditions: as they state. -/
import Derived.Test.YtakcolililbkjaaLib2
import Derived.Maps.OwnSet
set_option linter.unusedVariables false
set_option linter.unusedSimpArgs false
namespace Go.Proofs.Ytakcolililbkjaa
open Go.RowKit
/-- Block `b` is a map whose entries are `l`. -/
def MapAt (w : World) (b : Nat) (l : List (ByteArray × Value)) : Prop :=
  ∃ es clock, w.heap[b]? = some (.map es clock) ∧ es.toList.map (fun e => (e.key, e.val)) = l.map (fun p => (Value.string p.1, p.2))
def lookB (k : ByteArray) : List (ByteArray × Value) → Option Value
  | [] => none
  | p :: r => if k = p.1 then some p.2 else lookB k r
theorem ba_beq (a : ByteArray) : (a == a) = true := by
  cases a with | mk d => show (d == d) = true; simp
theorem ba_bne {a b : ByteArray} (h : a ≠ b) : (a == b) = false := by
  cases a with | mk d => cases b with | mk e =>
    show (d == e) = false
    rw [beq_eq_false_iff_ne]
    exact fun x => h (by rw [x])
theorem MapAt.made (w : World) : MapAt (w.alloc (.map #[] 0)) w.heap.size [] := ⟨#[], 0, (MapKept.heap_alloc w _).1, rfl⟩
theorem MapAt.lt {w : World} {b : Nat} {l : List (ByteArray × Value)} (h : MapAt w b l) : b < w.heap.size := by
  obtain ⟨es, clock, hb, -⟩ := h
  exact (Array.getElem?_eq_some_iff.1 hb).1
theorem MapAt.chg {S : List Nat} {w w' : World} {b : Nat} {l : List (ByteArray × Value)} (h : MapAt w b l) (hc : Chg S w w') (hb : b ∉ S) : MapAt w' b l := by
  have hl := h.lt
  obtain ⟨es, clock, h1, h2⟩ := h
  exact ⟨es, clock, (hc.block b hl hb).trans h1, h2⟩
theorem find_now (k : ByteArray) : ∀ (es : List MapEntry) (l : List (ByteArray × Value)) (i : Nat), es.map (fun e => (e.key, e.val)) = l.map (fun p => (Value.string p.1, p.2)) →
    ∃ r, Instr.findNow .string (.string k) es i = some r ∧ r.map Prod.snd = lookB k l := by
  intro es
  induction es with
  | nil =>
    intro l i h
    cases l with
    | nil => exact ⟨none, rfl, rfl⟩
    | cons p l => simp at h
  | cons e es ih =>
    intro l i h
    cases l with
    | nil => simp at h
    | cons p l =>
      simp only [List.map_cons, List.cons.injEq, Prod.mk.injEq] at h
      obtain ⟨⟨h1, h2⟩, h3⟩ := h
      by_cases hk : k = p.1
      · refine ⟨some (i, e.val), ?_, ?_⟩
        · rw [Instr.findNow, h1]
          subst hk
          simp only [Instr.sameNow]
          rw [ba_beq]
        · rw [lookB, if_pos hk]; simp [h2]
      · obtain ⟨r, hr1, hr2⟩ := ih l (i + 1) h3
        refine ⟨r, ?_, ?_⟩
        · rw [Instr.findNow, h1]
          simp only [Instr.sameNow]
          rw [ba_bne hk]
          exact hr1
        · rw [lookB, if_neg hk]; exact hr2
theorem run_find {P : Program} {kt : TypeId} (hk : P.underlying kt = some .string) (w : World) (k : ByteArray) (es : List MapEntry) (l : List (ByteArray × Value)) (h : es.map (fun e => (e.key, e.val)) = l.map (fun p => (Value.string p.1, p.2))) :
    ∃ r, (Instr.findKey kt (.string k) es).run P w = .ok r w ∧ r.map Prod.snd = lookB k l := by
  obtain ⟨r, h1, h2⟩ := find_now k es l 0 h
  exact ⟨r, by simp [Instr.findKey, run_underlying hk, h1, Result.andThen], h2⟩
theorem map_store {P : Program} {t kt e : TypeId} (ht : P.underlying t = some (.map kt e)) (hk : P.underlying kt = some .string) {w : World} {b : Nat} {l : List (ByteArray × Value)} (h : MapAt w b l) (k : ByteArray) (v : Value) (hn : lookB k l = none) :
    ∃ w', (Instr.mapUpdate t (.map (some b)) (.string k) v).run P w = .ok () w' ∧ MapAt w' b (l ++ [(k, v)]) ∧ Chg [b] w w' := by
  have hl := h.lt
  obtain ⟨es, clock, h1, h2⟩ := h
  obtain ⟨r, h3, h4⟩ := run_find hk w k es.toList l h2
  have hr : r = none := by
    rw [hn] at h4
    cases r with
    | none => rfl
    | some x => simp at h4
  subst hr
  refine ⟨{ w with heap := w.heap.setIfInBounds b (.map (es.push ⟨.string k, v, clock⟩) (clock + 1)) }, ?_, ⟨es.push ⟨.string k, v, clock⟩, clock + 1, ?_, ?_⟩, ?_⟩
  · simp [Instr.mapUpdate, run_underlying ht, MapKept.run_getObj_map h1, MapKept.run_checkKey (n := 9999) hk (d := .string) (k := .string k) trivial, h3, MapKept.run_setObj_map _ h1, Result.andThen]
  · simp [hl]
  · simp [h2]
  · refine ⟨rfl, rfl, rfl, by simp, fun i hi hm => ?_⟩
    simp at hm
    rw [Array.getElem?_setIfInBounds_ne (fun e => hm e.symm)]
theorem map_look {P : Program} {t kt e : TypeId} (ht : P.underlying t = some (.map kt e)) (hk : P.underlying kt = some .string) {w : World} {b : Nat} {l : List (ByteArray × Value)} (h : MapAt w b l) {z : Value} (hz : (zeroValue e).run P w = .ok z w) (k : ByteArray) :
    (Instr.lookup t (.map (some b)) (.string k) true).run P w = .ok (.tuple #[(lookB k l).getD z, .bool (lookB k l).isSome]) w := by
  obtain ⟨es, clock, h1, h2⟩ := h
  obtain ⟨r, h3, h4⟩ := run_find hk w k es.toList l h2
  cases r with
  | none =>
    simp at h4
    rw [← h4]
    simp [Instr.lookup, run_underlying ht, MapKept.run_getObj_map h1, MapKept.run_checkKey (n := 9999) hk (d := .string) (k := .string k) trivial, h3, hz, Result.andThen]
  | some x =>
    simp at h4
    rw [← h4]
    obtain ⟨j, v⟩ := x
    simp [Instr.lookup, run_underlying ht, MapKept.run_getObj_map h1, MapKept.run_checkKey (n := 9999) hk (d := .string) (k := .string k) trivial, h3, Result.andThen]
/-- `m[k] = v` at the operation, a key that is not there. -/
theorem wpList_map_store {P : Program} (w : World) {ops : Array Oper} {rest : List Oper} {o : Oper} {a : Act} {Q : Exit → Act → World → Prop}
    (hg : o.guard = none) (m x v : Operand) (t : TypeId) (hop : o.op = Op.mapUpdate t m x v)
    (kt e : TypeId) (ht : P.underlying t = some (.map kt e)) (hk : P.underlying kt = some .string) (b : Nat) (l : List (ByteArray × Value)) (hm : a.eval m = .map (some b)) (hown : MapAt w b l) (k : ByteArray) (val : Value)
    (hx : a.eval x = .string k) (hv : a.eval v = val) (hn : lookB k l = none)
    (hK : ∀ w', MapAt w' b (l ++ [(k, val)]) → Chg [b] w w' → wpList P ops Q rest (a.put o.dst undef) w') :
    wpList P ops Q (o :: rest) a w := by
  refine wpList_plain hg fun K' hK' => ?_
  obtain ⟨w', hrun, r1, r2⟩ := map_store ht hk hown k val hn
  unfold Oper.wp
  simp [execOp, hop, hm, hx, hv, hrun, Result.andThen]
  exact hK' _ _ (hK w' r1 r2)
theorem wpList_map_insert {P : Program} (w : World) {ops : Array Oper} {rest : List Oper} {o : Oper} {a : Act} {Q : Exit → Act → World → Prop}
    (hg : o.guard = none) (m x v : Operand) (t : TypeId) (hop : o.op = Op.insert t m x v)
    (kt e : TypeId) (ht : P.underlying t = some (.map kt e)) (hk : P.underlying kt = some .string) (b : Nat) (l : List (ByteArray × Value)) (hm : a.eval m = .map (some b)) (hown : MapAt w b l) (k : ByteArray) (val : Value)
    (hx : a.eval x = .string k) (hv : a.eval v = val) (hn : lookB k l = none)
    (hK : ∀ w', MapAt w' b (l ++ [(k, val)]) → Chg [b] w w' → wpList P ops Q rest (a.put o.dst undef) w') :
    wpList P ops Q (o :: rest) a w := by
  refine wpList_plain hg fun K' hK' => ?_
  obtain ⟨w', hrun, r1, r2⟩ := map_store ht hk hown k val hn
  unfold Oper.wp
  simp [execOp, hop, hm, hx, hv, hrun, Result.andThen]
  exact hK' _ _ (hK w' r1 r2)
/-- `v, ok := m[k]` at the operation. -/
theorem wpList_map_look {P : Program} (w : World) {ops : Array Oper} {rest : List Oper} {o : Oper} {a : Act} {Q : Exit → Act → World → Prop}
    (hg : o.guard = none) (m x : Operand) (t : TypeId) (hop : o.op = Op.lookup t m x true)
    (kt e : TypeId) (ht : P.underlying t = some (.map kt e)) (hk : P.underlying kt = some .string) (z : Value) (hz : (zeroValue e).run P w = .ok z w) (b : Nat) (l : List (ByteArray × Value)) (hm : a.eval m = .map (some b)) (hown : MapAt w b l) (k : ByteArray)
    (hx : a.eval x = .string k) (hK : wpList P ops Q rest (a.put o.dst (.tuple #[(lookB k l).getD z, .bool (lookB k l).isSome])) w) :
    wpList P ops Q (o :: rest) a w := by
  refine wpList_plain hg fun K' hK' => ?_
  have hrun := map_look ht hk hown hz k
  unfold Oper.wp
  simp [execOp, hop, hm, hx, hrun, Result.andThen]
  exact hK' _ _ hK
end Go.Proofs.Ytakcolililbkjaa
