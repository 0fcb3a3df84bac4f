/- Map, PlMaps, PlOne, PlOpen: texts of mine, joined. Conditions: as they state. -/
import Derived.Test.YtnjjbiialpmhbaaLib2
import Derived.Maps.OwnSet
import Derived.Test.YtnjjbiialpmhbaaTclLow
import Derived.Test.YtnjjbiialpmhbaaPlB
set_option linter.unusedVariables false
set_option linter.unusedSimpArgs false
namespace Go.Proofs.Ytnjjbiialpmhbaa
open Go.RowKit
/-- Block `b` is a map whose entries are `l`. -/
def MapAt (w : World) (b : Nat) (l : List (ByteArray × Value)) : Prop :=
  ∃ es clock, w.heap[b]? = some (.map es clock) ∧ es.toList.map (fun e => (e.key, e.val)) = l.map (fun p => (Value.string p.1, p.2))
def lookB (k : ByteArray) : List (ByteArray × Value) → Option Value
  | [] => none
  | p :: r => if k = p.1 then some p.2 else lookB k r
theorem ba_beq (a : ByteArray) : (a == a) = true := by
  cases a with | mk d => show (d == d) = true; simp
theorem ba_bne {a b : ByteArray} (h : a ≠ b) : (a == b) = false := by
  cases a with | mk d => cases b with | mk e =>
    show (d == e) = false
    rw [beq_eq_false_iff_ne]
    exact fun x => h (by rw [x])
theorem MapAt.made (w : World) : MapAt (w.alloc (.map #[] 0)) w.heap.size [] := ⟨#[], 0, (MapKept.heap_alloc w _).1, rfl⟩
theorem MapAt.lt {w : World} {b : Nat} {l : List (ByteArray × Value)} (h : MapAt w b l) : b < w.heap.size := by
  obtain ⟨es, clock, hb, -⟩ := h
  exact (Array.getElem?_eq_some_iff.1 hb).1
theorem MapAt.chg {S : List Nat} {w w' : World} {b : Nat} {l : List (ByteArray × Value)} (h : MapAt w b l) (hc : Chg S w w') (hb : b ∉ S) : MapAt w' b l := by
  have hl := h.lt
  obtain ⟨es, clock, h1, h2⟩ := h
  exact ⟨es, clock, (hc.block b hl hb).trans h1, h2⟩
theorem find_now (k : ByteArray) : ∀ (es : List MapEntry) (l : List (ByteArray × Value)) (i : Nat), es.map (fun e => (e.key, e.val)) = l.map (fun p => (Value.string p.1, p.2)) →
    ∃ r, Instr.findNow .string (.string k) es i = some r ∧ r.map Prod.snd = lookB k l := by
  intro es
  induction es with
  | nil =>
    intro l i h
    cases l with
    | nil => exact ⟨none, rfl, rfl⟩
    | cons p l => simp at h
  | cons e es ih =>
    intro l i h
    cases l with
    | nil => simp at h
    | cons p l =>
      simp only [List.map_cons, List.cons.injEq, Prod.mk.injEq] at h
      obtain ⟨⟨h1, h2⟩, h3⟩ := h
      by_cases hk : k = p.1
      · refine ⟨some (i, e.val), ?_, ?_⟩
        · rw [Instr.findNow, h1]
          subst hk
          simp only [Instr.sameNow]
          rw [ba_beq]
        · rw [lookB, if_pos hk]; simp [h2]
      · obtain ⟨r, hr1, hr2⟩ := ih l (i + 1) h3
        refine ⟨r, ?_, ?_⟩
        · rw [Instr.findNow, h1]
          simp only [Instr.sameNow]
          rw [ba_bne hk]
          exact hr1
        · rw [lookB, if_neg hk]; exact hr2
theorem run_find {P : Program} {kt : TypeId} (hk : P.underlying kt = some .string) (w : World) (k : ByteArray) (es : List MapEntry) (l : List (ByteArray × Value)) (h : es.map (fun e => (e.key, e.val)) = l.map (fun p => (Value.string p.1, p.2))) :
    ∃ r, (Instr.findKey kt (.string k) es).run P w = .ok r w ∧ r.map Prod.snd = lookB k l := by
  obtain ⟨r, h1, h2⟩ := find_now k es l 0 h
  exact ⟨r, by simp [Instr.findKey, run_underlying hk, h1, Result.andThen], h2⟩
theorem map_store {P : Program} {t kt e : TypeId} (ht : P.underlying t = some (.map kt e)) (hk : P.underlying kt = some .string) {w : World} {b : Nat} {l : List (ByteArray × Value)} (h : MapAt w b l) (k : ByteArray) (v : Value) (hn : lookB k l = none) :
    ∃ w', (Instr.mapUpdate t (.map (some b)) (.string k) v).run P w = .ok () w' ∧ MapAt w' b (l ++ [(k, v)]) ∧ Chg [b] w w' := by
  have hl := h.lt
  obtain ⟨es, clock, h1, h2⟩ := h
  obtain ⟨r, h3, h4⟩ := run_find hk w k es.toList l h2
  have hr : r = none := by
    rw [hn] at h4
    cases r with
    | none => rfl
    | some x => simp at h4
  subst hr
  refine ⟨{ w with heap := w.heap.setIfInBounds b (.map (es.push ⟨.string k, v, clock⟩) (clock + 1)) }, ?_, ⟨es.push ⟨.string k, v, clock⟩, clock + 1, ?_, ?_⟩, ?_⟩
  · simp [Instr.mapUpdate, run_underlying ht, MapKept.run_getObj_map h1, MapKept.run_checkKey (n := 9999) hk (d := .string) (k := .string k) trivial, h3, MapKept.run_setObj_map _ h1, Result.andThen]
  · simp [hl]
  · simp [h2]
  · refine ⟨rfl, rfl, rfl, by simp, fun i hi hm => ?_⟩
    simp at hm
    rw [Array.getElem?_setIfInBounds_ne (fun e => hm e.symm)]
theorem map_look {P : Program} {t kt e : TypeId} (ht : P.underlying t = some (.map kt e)) (hk : P.underlying kt = some .string) {w : World} {b : Nat} {l : List (ByteArray × Value)} (h : MapAt w b l) {z : Value} (hz : (zeroValue e).run P w = .ok z w) (k : ByteArray) :
    (Instr.lookup t (.map (some b)) (.string k) true).run P w = .ok (.tuple #[(lookB k l).getD z, .bool (lookB k l).isSome]) w := by
  obtain ⟨es, clock, h1, h2⟩ := h
  obtain ⟨r, h3, h4⟩ := run_find hk w k es.toList l h2
  cases r with
  | none =>
    simp at h4
    rw [← h4]
    simp [Instr.lookup, run_underlying ht, MapKept.run_getObj_map h1, MapKept.run_checkKey (n := 9999) hk (d := .string) (k := .string k) trivial, h3, hz, Result.andThen]
  | some x =>
    simp at h4
    rw [← h4]
    obtain ⟨j, v⟩ := x
    simp [Instr.lookup, run_underlying ht, MapKept.run_getObj_map h1, MapKept.run_checkKey (n := 9999) hk (d := .string) (k := .string k) trivial, h3, Result.andThen]
/-- `m[k] = v` at the operation, a key that is not there. -/
theorem wpList_map_store {P : Program} (w : World) {ops : Array Oper} {rest : List Oper} {o : Oper} {a : Act} {Q : Exit → Act → World → Prop}
    (hg : o.guard = none) (m x v : Operand) (t : TypeId) (hop : o.op = Op.mapUpdate t m x v)
    (kt e : TypeId) (ht : P.underlying t = some (.map kt e)) (hk : P.underlying kt = some .string) (b : Nat) (l : List (ByteArray × Value)) (hm : a.eval m = .map (some b)) (hown : MapAt w b l) (k : ByteArray) (val : Value)
    (hx : a.eval x = .string k) (hv : a.eval v = val) (hn : lookB k l = none)
    (hK : ∀ w', MapAt w' b (l ++ [(k, val)]) → Chg [b] w w' → wpList P ops Q rest (a.put o.dst undef) w') :
    wpList P ops Q (o :: rest) a w := by
  refine wpList_plain hg fun K' hK' => ?_
  obtain ⟨w', hrun, r1, r2⟩ := map_store ht hk hown k val hn
  unfold Oper.wp
  simp [execOp, hop, hm, hx, hv, hrun, Result.andThen]
  exact hK' _ _ (hK w' r1 r2)
theorem wpList_map_insert {P : Program} (w : World) {ops : Array Oper} {rest : List Oper} {o : Oper} {a : Act} {Q : Exit → Act → World → Prop}
    (hg : o.guard = none) (m x v : Operand) (t : TypeId) (hop : o.op = Op.insert t m x v)
    (kt e : TypeId) (ht : P.underlying t = some (.map kt e)) (hk : P.underlying kt = some .string) (b : Nat) (l : List (ByteArray × Value)) (hm : a.eval m = .map (some b)) (hown : MapAt w b l) (k : ByteArray) (val : Value)
    (hx : a.eval x = .string k) (hv : a.eval v = val) (hn : lookB k l = none)
    (hK : ∀ w', MapAt w' b (l ++ [(k, val)]) → Chg [b] w w' → wpList P ops Q rest (a.put o.dst undef) w') :
    wpList P ops Q (o :: rest) a w := by
  refine wpList_plain hg fun K' hK' => ?_
  obtain ⟨w', hrun, r1, r2⟩ := map_store ht hk hown k val hn
  unfold Oper.wp
  simp [execOp, hop, hm, hx, hv, hrun, Result.andThen]
  exact hK' _ _ (hK w' r1 r2)
/-- `v, ok := m[k]` at the operation. -/
theorem wpList_map_look {P : Program} (w : World) {ops : Array Oper} {rest : List Oper} {o : Oper} {a : Act} {Q : Exit → Act → World → Prop}
    (hg : o.guard = none) (m x : Operand) (t : TypeId) (hop : o.op = Op.lookup t m x true)
    (kt e : TypeId) (ht : P.underlying t = some (.map kt e)) (hk : P.underlying kt = some .string) (z : Value) (hz : (zeroValue e).run P w = .ok z w) (b : Nat) (l : List (ByteArray × Value)) (hm : a.eval m = .map (some b)) (hown : MapAt w b l) (k : ByteArray)
    (hx : a.eval x = .string k) (hK : wpList P ops Q rest (a.put o.dst (.tuple #[(lookB k l).getD z, .bool (lookB k l).isSome])) w) :
    wpList P ops Q (o :: rest) a w := by
  refine wpList_plain hg fun K' hK' => ?_
  have hrun := map_look ht hk hown hz k
  unfold Oper.wp
  simp [execOp, hop, hm, hx, hrun, Result.andThen]
  exact hK' _ _ hK
end Go.Proofs.Ytnjjbiialpmhbaa
namespace Go.Proofs.Ytnjjbiialpmhbaa
namespace Pl
open Go.RowKit
def formsB : List (ByteArray × Value) := [(⟨#[115, 101, 116]⟩, .agg #[.int .i64 0, .int .i64 2, .int .i64 2]), (⟨#[115, 112, 97, 119, 110]⟩, .agg #[.int .i64 1, .int .i64 1, .int .i64 1073741824]), (⟨#[115, 101, 110, 100]⟩, .agg #[.int .i64 2, .int .i64 1, .int .i64 1]), (⟨#[101, 120, 112, 101, 99, 116]⟩, .agg #[.int .i64 3, .int .i64 1, .int .i64 1073741824]), (⟨#[109, 97, 116, 99, 104, 95, 109, 97, 120]⟩, .agg #[.int .i64 4, .int .i64 1, .int .i64 1]), (⟨#[115, 108, 101, 101, 112]⟩, .agg #[.int .i64 5, .int .i64 1, .int .i64 1]), (⟨#[99, 108, 111, 115, 101]⟩, .agg #[.int .i64 6, .int .i64 0, .int .i64 0]), (⟨#[101, 120, 105, 116]⟩, .agg #[.int .i64 7, .int .i64 0, .int .i64 1]), (⟨#[101, 120, 112, 95, 99, 111, 110, 116, 105, 110, 117, 101]⟩, .agg #[.int .i64 8, .int .i64 0, .int .i64 0])]
set_option maxRecDepth 100000 in
set_option maxHeartbeats 8000000 in
theorem forms_any (w : World) : Calls Try.prog 37 #[] w fun e w' => ∃ b, e = .returned (.map (some b)) ∧ MapAt w' b formsB ∧ Chg [] w w' := by
  have hmm := @run_makeMap Try.prog
  have hM := MapAt.made w
  have hC := (Chg.refl [] w).alloc (.map #[] 0)
  generalize hw1 : w.alloc (.map #[] 0) = w1 at hM hC
  obtain ⟨w2, r1, hM, hC2⟩ := map_store (P := Try.prog) (t := 89) (kt := 9) (e := 87) Try.underlying89 Try.underlying9 hM ⟨#[115, 101, 116]⟩ (.agg #[.int .i64 0, .int .i64 2, .int .i64 2]) (by decide)
  replace hC := hC.then hC2 (by intro x hx; simp at hx; subst hx; exact .inr (Nat.le_refl _))
  clear hC2
  simp only [List.nil_append, List.cons_append] at hM
  obtain ⟨w3, r2, hM, hC2⟩ := map_store (P := Try.prog) (t := 89) (kt := 9) (e := 87) Try.underlying89 Try.underlying9 hM ⟨#[115, 112, 97, 119, 110]⟩ (.agg #[.int .i64 1, .int .i64 1, .int .i64 1073741824]) (by decide)
  replace hC := hC.then hC2 (by intro x hx; simp at hx; subst hx; exact .inr (Nat.le_refl _))
  clear hC2
  simp only [List.nil_append, List.cons_append] at hM
  obtain ⟨w4, r3, hM, hC2⟩ := map_store (P := Try.prog) (t := 89) (kt := 9) (e := 87) Try.underlying89 Try.underlying9 hM ⟨#[115, 101, 110, 100]⟩ (.agg #[.int .i64 2, .int .i64 1, .int .i64 1]) (by decide)
  replace hC := hC.then hC2 (by intro x hx; simp at hx; subst hx; exact .inr (Nat.le_refl _))
  clear hC2
  simp only [List.nil_append, List.cons_append] at hM
  obtain ⟨w5, r4, hM, hC2⟩ := map_store (P := Try.prog) (t := 89) (kt := 9) (e := 87) Try.underlying89 Try.underlying9 hM ⟨#[101, 120, 112, 101, 99, 116]⟩ (.agg #[.int .i64 3, .int .i64 1, .int .i64 1073741824]) (by decide)
  replace hC := hC.then hC2 (by intro x hx; simp at hx; subst hx; exact .inr (Nat.le_refl _))
  clear hC2
  simp only [List.nil_append, List.cons_append] at hM
  obtain ⟨w6, r5, hM, hC2⟩ := map_store (P := Try.prog) (t := 89) (kt := 9) (e := 87) Try.underlying89 Try.underlying9 hM ⟨#[109, 97, 116, 99, 104, 95, 109, 97, 120]⟩ (.agg #[.int .i64 4, .int .i64 1, .int .i64 1]) (by decide)
  replace hC := hC.then hC2 (by intro x hx; simp at hx; subst hx; exact .inr (Nat.le_refl _))
  clear hC2
  simp only [List.nil_append, List.cons_append] at hM
  obtain ⟨w7, r6, hM, hC2⟩ := map_store (P := Try.prog) (t := 89) (kt := 9) (e := 87) Try.underlying89 Try.underlying9 hM ⟨#[115, 108, 101, 101, 112]⟩ (.agg #[.int .i64 5, .int .i64 1, .int .i64 1]) (by decide)
  replace hC := hC.then hC2 (by intro x hx; simp at hx; subst hx; exact .inr (Nat.le_refl _))
  clear hC2
  simp only [List.nil_append, List.cons_append] at hM
  obtain ⟨w8, r7, hM, hC2⟩ := map_store (P := Try.prog) (t := 89) (kt := 9) (e := 87) Try.underlying89 Try.underlying9 hM ⟨#[99, 108, 111, 115, 101]⟩ (.agg #[.int .i64 6, .int .i64 0, .int .i64 0]) (by decide)
  replace hC := hC.then hC2 (by intro x hx; simp at hx; subst hx; exact .inr (Nat.le_refl _))
  clear hC2
  simp only [List.nil_append, List.cons_append] at hM
  obtain ⟨w9, r8, hM, hC2⟩ := map_store (P := Try.prog) (t := 89) (kt := 9) (e := 87) Try.underlying89 Try.underlying9 hM ⟨#[101, 120, 105, 116]⟩ (.agg #[.int .i64 7, .int .i64 0, .int .i64 1]) (by decide)
  replace hC := hC.then hC2 (by intro x hx; simp at hx; subst hx; exact .inr (Nat.le_refl _))
  clear hC2
  simp only [List.nil_append, List.cons_append] at hM
  obtain ⟨w10, r9, hM, hC2⟩ := map_store (P := Try.prog) (t := 89) (kt := 9) (e := 87) Try.underlying89 Try.underlying9 hM ⟨#[101, 120, 112, 95, 99, 111, 110, 116, 105, 110, 117, 101]⟩ (.agg #[.int .i64 8, .int .i64 0, .int .i64 0]) (by decide)
  replace hC := hC.then hC2 (by intro x hx; simp at hx; subst hx; exact .inr (Nat.le_refl _))
  clear hC2
  simp only [List.nil_append, List.cons_append] at hM
  replace hM := Lib.hid hM
  replace hC := Lib.hid hC
  go_enter Try.func37, Try.ntmps37
  go_wp2_with fail
  go_ret
  exact ⟨_, rfl, hM.out, hC.out⟩
def flagsB : List (ByteArray × Value) := [(⟨#[45, 101, 120, 97, 99, 116]⟩, .int .i64 0), (⟨#[45, 103, 108, 111, 98]⟩, .int .i64 1), (⟨#[116, 105, 109, 101, 111, 117, 116]⟩, .int .i64 2), (⟨#[101, 111, 102]⟩, .int .i64 3)]
set_option maxRecDepth 100000 in
set_option maxHeartbeats 8000000 in
theorem flags_any (w : World) : Calls Try.prog 57 #[] w fun e w' => ∃ b, e = .returned (.map (some b)) ∧ MapAt w' b flagsB ∧ Chg [] w w' := by
  have hmm := @run_makeMap Try.prog
  have hM := MapAt.made w
  have hC := (Chg.refl [] w).alloc (.map #[] 0)
  generalize hw1 : w.alloc (.map #[] 0) = w1 at hM hC
  obtain ⟨w2, r1, hM, hC2⟩ := map_store (P := Try.prog) (t := 116) (kt := 9) (e := 3) Try.underlying116 Try.underlying9 hM ⟨#[45, 101, 120, 97, 99, 116]⟩ (.int .i64 0) (by decide)
  replace hC := hC.then hC2 (by intro x hx; simp at hx; subst hx; exact .inr (Nat.le_refl _))
  clear hC2
  simp only [List.nil_append, List.cons_append] at hM
  obtain ⟨w3, r2, hM, hC2⟩ := map_store (P := Try.prog) (t := 116) (kt := 9) (e := 3) Try.underlying116 Try.underlying9 hM ⟨#[45, 103, 108, 111, 98]⟩ (.int .i64 1) (by decide)
  replace hC := hC.then hC2 (by intro x hx; simp at hx; subst hx; exact .inr (Nat.le_refl _))
  clear hC2
  simp only [List.nil_append, List.cons_append] at hM
  obtain ⟨w4, r3, hM, hC2⟩ := map_store (P := Try.prog) (t := 116) (kt := 9) (e := 3) Try.underlying116 Try.underlying9 hM ⟨#[116, 105, 109, 101, 111, 117, 116]⟩ (.int .i64 2) (by decide)
  replace hC := hC.then hC2 (by intro x hx; simp at hx; subst hx; exact .inr (Nat.le_refl _))
  clear hC2
  simp only [List.nil_append, List.cons_append] at hM
  obtain ⟨w5, r4, hM, hC2⟩ := map_store (P := Try.prog) (t := 116) (kt := 9) (e := 3) Try.underlying116 Try.underlying9 hM ⟨#[101, 111, 102]⟩ (.int .i64 3) (by decide)
  replace hC := hC.then hC2 (by intro x hx; simp at hx; subst hx; exact .inr (Nat.le_refl _))
  clear hC2
  simp only [List.nil_append, List.cons_append] at hM
  replace hM := Lib.hid hM
  replace hC := Lib.hid hC
  go_enter Try.func57, Try.ntmps57
  go_wp2_with fail
  go_ret
  exact ⟨_, rfl, hM.out, hC.out⟩
end Pl
end Go.Proofs.Ytnjjbiialpmhbaa
namespace Go.Proofs.Ytnjjbiialpmhbaa
namespace Pl
open Go.RowKit Tcl Plan
theorem bstr_inj {a b : List UInt8} (h : bstr a = bstr b) : a = b := by
  have := congrArg (fun x : ByteArray => x.data.toList) h
  simpa [bstr] using this
theorem lookB_look {α : Type} (s : List UInt8) (l : List (List UInt8 × α)) (f : α → Value) : lookB (bstr s) (l.map (fun p => (bstr p.1, f p.2))) = (Plan.look s l).map f := by
  induction l with
  | nil => rfl
  | cons p r ih =>
    rw [List.map_cons, lookB, Plan.look]
    by_cases h : s = p.1
    · rw [if_pos h, if_pos (congrArg bstr h)]; rfl
    · rw [if_neg h, if_neg (fun e => h (bstr_inj e)), ih]
/-- A word as a value. -/
abbrev wordV (wd : Word) (A : Option Addr) (c : Nat) : Value := .agg #[.int .i64 wd.at_, .int .i64 wd.kind, .slice A wd.parts.length c]
/-- What `one` tells. -/
def oneV (wd : Word) : Value := .tuple #[.string (bstr ((oneT wd).getD [])), .bool (oneT wd).isSome]
set_option maxRecDepth 100000 in
set_option maxHeartbeats 8000000 in
theorem one_any (w : World) (wd : Word) (A : Option Addr) (c : Nat) (hp : PartsAt w (.slice A wd.parts.length c) wd.parts) :
    Calls Try.prog 36 #[wordV wd A c] w fun e w' => e = .returned (oneV wd) ∧ Chg [] w w' := by
  obtain ⟨at_, kind, ps⟩ := wd
  unfold wordV oneV
  simp only at hp ⊢
  have hC : Chg [] w (w.alloc (.cells #[.int .i64 at_, .int .i64 kind, .slice A ps.length c] 35)) := (Chg.refl [] w).alloc _
  match ps, hp, hC with
  | [], hp, hC =>
    replace hC := Lib.hid hC
    clear hp
    have e0 : oneT ⟨at_, kind, []⟩ = none := rfl
    rw [e0]
    go_enter Try.func36, Try.ntmps36
    go_wp2_with fail
    go_ret2
    exact ⟨rfl, hC.out⟩
  | p :: q :: r, hp, hC =>
    have e0 : oneT ⟨at_, kind, p :: q :: r⟩ = none := rfl
    rw [e0]
    obtain ⟨n, hn⟩ : ∃ n, (p :: q :: r).length = n := ⟨_, rfl⟩
    have hn2 : ((n : Int) != 1) = true := by simp only [List.length_cons] at hn; simp; omega
    rw [hn] at hC ⊢
    replace hC := Lib.hid hC
    clear hp e0 hn
    go_enter Try.func36, Try.ntmps36
    go_wp2_with fail
    go_ret2
    exact ⟨rfl, hC.out⟩
  | [p], hp, hC =>
    obtain ⟨b, o, rfl, hr⟩ := parts_at hp (by simp)
    obtain ⟨c0, c1⟩ := hr 0 p rfl
    replace c0 := hC.cell c0 (by simp)
    replace c1 := hC.cell c1 (by simp)
    obtain ⟨var, s⟩ := p
    simp only [Nat.zero_mul, Nat.add_zero, Nat.zero_add, List.length_singleton] at c0 c1 hC ⊢
    have k0 : ((kind : Int) == 2) = decide (kind = 2) := by
      by_cases h : kind = 2
      · subst h; rfl
      · rw [decide_eq_false h, beq_eq_false_iff_ne]; omega
    obtain ⟨Z, hZ⟩ : ∃ Z, bstr s = Z := ⟨_, rfl⟩
    cases var with
    | true =>
      have e0 : oneT ⟨at_, kind, [⟨true, s⟩]⟩ = none := by unfold oneT; simp
      rw [e0]
      replace hC := Lib.hid hC
      clear hp hr e0
      go_enter Try.func36, Try.ntmps36
      go_wp2_with fail
      go_ret2
      exact ⟨rfl, hC.out⟩
    | false =>
      by_cases hk : kind = 2
      · have e0 : oneT ⟨at_, kind, [⟨false, s⟩]⟩ = none := by unfold oneT; simp [hk]
        rw [e0]
        have k1 : ((kind : Int) == 2) = true := by rw [k0, decide_eq_true hk]
        clear hk
        replace hC := Lib.hid hC
        clear hp hr e0 k0
        go_enter Try.func36, Try.ntmps36
        go_wp2_with fail
        go_ret2
        exact ⟨rfl, hC.out⟩
      · have e0 : oneT ⟨at_, kind, [⟨false, s⟩]⟩ = some s := by unfold oneT; simp [hk]
        rw [e0]
        simp only [Option.getD_some, Option.isSome_some]
        rw [hZ] at c1 ⊢
        have k1 : ((kind : Int) == 2) = false := by rw [k0, decide_eq_false hk]
        clear hk
        replace hC := Lib.hid hC
        clear hp hr e0 k0
        go_enter Try.func36, Try.ntmps36
        go_wp2_with fail
        go_ret2
        exact ⟨rfl, hC.out⟩
set_option maxRecDepth 100000 in
set_option maxHeartbeats 8000000 in
theorem flagged_any (w : World) (wd : Word) (A : Option Addr) (c : Nat) (hp : PartsAt w (.slice A wd.parts.length c) wd.parts) :
    Calls Try.prog 50 #[wordV wd A c] w fun e w' => (∃ k : Int, e = .returned (.tuple #[.int .i64 k, .bool (flagged wd).isSome]) ∧ ∀ j, flagged wd = some j → k = j) ∧ Chg [] w w' := by
  have hC : Chg [] w (w.alloc (.cells #[.int .i64 wd.at_, .int .i64 wd.kind, .slice A wd.parts.length c] 35)) := (Chg.refl [] w).alloc _
  have h1 := Lib.hid (fun W (hc : Chg [] w W) => one_any W wd A c (hp.chg hc (fun _ _ _ => by simp)))
  unfold oneV at h1
  obtain ⟨s, hs⟩ : ∃ s, (oneT wd).getD [] = s := ⟨_, rfl⟩
  obtain ⟨o, ho⟩ : ∃ o, (oneT wd).isSome = o := ⟨_, rfl⟩
  rw [hs, ho] at h1
  have hz : ∀ W, (zeroValue 3).run Try.prog W = .ok (.int .i64 0) W := fun W => by rfl
  have hQ : lookB (bstr s) flagsB = (flagOf s).map (fun j => .int .i64 (j : Int)) := by
    rw [flagOf, ← lookB_look s flagL (fun j => Value.int .i64 (j : Int))]; rfl
  obtain ⟨K, i, hKi, hfl⟩ : ∃ (K : Int) (i : Bool), (Value.tuple #[((lookB (bstr s) flagsB).getD (.int .i64 0)), .bool (lookB (bstr s) flagsB).isSome]) = .tuple #[.int .i64 K, .bool i] ∧
      ((flagged wd).isSome = (o && i && ((wd.kind : Int) == 0)) ∧ ∀ j, flagged wd = some j → K = j) := by
    rw [hQ]
    have k0 : ((wd.kind : Int) == 0) = decide (wd.kind = 0) := by
      by_cases h : wd.kind = 0
      · rw [h]; rfl
      · rw [decide_eq_false h, beq_eq_false_iff_ne]; omega
    rw [k0]
    unfold flagged
    cases hw : oneT wd with
    | none =>
      rw [hw] at ho hs
      simp at ho hs
      subst ho hs
      exact ⟨0, false, rfl, rfl, fun j h => by simp at h⟩
    | some s0 =>
      rw [hw] at ho hs
      simp at ho hs
      subst ho hs
      simp only
      cases hf : flagOf s0 with
      | none => exact ⟨0, false, rfl, by simp, fun j h => by simp at h⟩
      | some j =>
        refine ⟨j, true, rfl, ?_, fun j' h => ?_⟩
        · by_cases h0 : wd.kind = 0 <;> simp [h0]
        · by_cases h0 : wd.kind = 0
          · simp [h0] at h; rw [h]
          · simp [h0] at h
  have hlook := Lib.hid (fun W b (hM : MapAt W b flagsB) => map_look (P := Try.prog) (t := 116) (kt := 9) (e := 3) Try.underlying116 Try.underlying9 hM (hz W) (bstr s))
  rw [hKi] at hlook
  obtain ⟨z, hzz⟩ : ∃ z, ((wd.kind : Int) == 0) = z := ⟨_, rfl⟩
  rw [hzz] at hfl
  obtain ⟨Z, hZ⟩ : ∃ Z, bstr s = Z := ⟨_, rfl⟩
  rw [hZ] at hlook h1
  obtain ⟨n, hn⟩ : ∃ n, wd.parts.length = n := ⟨_, rfl⟩
  obtain ⟨kd, hkd⟩ : ∃ kd, wd.kind = kd := ⟨_, rfl⟩
  obtain ⟨at_, hat⟩ : ∃ at_, wd.at_ = at_ := ⟨_, rfl⟩
  unfold wordV at h1 ⊢
  rw [hn, hkd, hat] at hC h1 ⊢
  rw [hkd] at hzz
  have hB := Lib.hid (blk_new w (.cells #[.int .i64 at_, .int .i64 kd, .slice A n c] 35))
  replace hC := Lib.hid hC
  replace hfl := Lib.hid hfl
  clear hs ho hz hQ hKi hp hZ hn hkd hat
  go_enter Try.func50, Try.ntmps50
  go_wp2_with fail
  refine (h1.out _ hC.out).mono ?_
  rintro e w2 ⟨rfl, hC1⟩
  replace hB := Lib.hid (hC1.heap hB.out (by simp))
  replace hC := Lib.hid (hC.out.trans hC1)
  clear hC1 h1
  go_wp2_with fail
  refine (flags_any _).mono ?_
  rintro e w3 ⟨b, rfl, hM, hC1⟩
  have hl := hlook.out w3 b hM
  replace hB := Lib.hid (hC1.heap hB.out (by simp))
  replace hC := Lib.hid (hC.out.trans hC1)
  have c1 : w3.cell? ⟨w.heap.size, 1, none⟩ = some (.int .i64 kd) := by simp [World.cell?, hB.out]
  clear hC1 hlook hM
  go_wp2_with fail
  cases o <;> cases i
  all_goals
    go_quiet (fail)
    go_wp2_with fail
    go_ret2
    refine ⟨⟨K, congrArg Ending.returned ?_, hfl.out.2⟩, hC.out.drewN _⟩
    rw [hfl.out.1]
    rfl
end Pl
end Go.Proofs.Ytnjjbiialpmhbaa
namespace Go.Proofs.Ytnjjbiialpmhbaa
namespace Pl
open Go.RowKit Tcl Plan
/-- The text of some parts. -/
def cat (ps : List Part) : List UInt8 := (ps.map (fun p => p.s)).flatten
theorem cat_take_le (ps : List Part) : ∀ k, (cat (ps.take k)).length ≤ (cat ps).length := by
  intro k
  have h : cat ps = cat (ps.take k) ++ cat (ps.drop k) := by unfold cat; rw [← List.flatten_append, ← List.map_append, List.take_append_drop]
  rw [h, List.length_append]; omega
theorem cat_succ {ps : List Part} {k : Nat} {p : Part} (h : ps[k]? = some p) : cat (ps.take (k + 1)) = cat (ps.take k) ++ p.s := by
  unfold cat
  rw [List.take_add_one, h]
  simp
set_option maxRecDepth 100000 in
set_option maxHeartbeats 8000000 in
theorem open_any (w : World) (wd : Word) (A : Option Addr) (c : Nat) (hp : PartsAt w (.slice A wd.parts.length c) wd.parts) (hl : (openT wd).length ≤ 16777216) (hn9 : wd.parts.length ≤ 9223372036854775807) :
    Calls Try.prog 38 #[wordV wd A c] w fun e w' => e = .returned (.string (bstr (openT wd))) ∧ Chg [] w w' := by
  obtain ⟨at_, kind, ps⟩ := wd
  have eo : openT ⟨at_, kind, ps⟩ = cat ps := rfl
  rw [eo] at hl ⊢
  unfold wordV
  simp only at hp hn9 ⊢
  have hC : Hid (Chg [] w (w.alloc (.cells #[.int .i64 at_, .int .i64 kind, .slice A ps.length c] 35))) := Lib.hid ((Chg.refl [] w).alloc _)
  obtain ⟨n, hn⟩ : ∃ n, ps.length = n := ⟨_, rfl⟩
  rw [hn] at hC hn9 ⊢
  have hcell : ∀ (k : Nat) (p : Part), ps[k]? = some p → ∃ b o, A = some ⟨b, o, none⟩ ∧ w.cell? ⟨b, o + k * 2, none⟩ = some (.bool p.var) ∧ w.cell? ⟨b, o + (k * 2 + 1), none⟩ = some (.string (bstr p.s)) := fun k p hk => by
    have hkl := (List.getElem?_eq_some_iff.1 hk).1
    obtain ⟨b, o, h1, h2⟩ := parts_at hp (by omega)
    exact ⟨b, o, h1, h2 k p hk⟩
  replace hcell := Lib.hid hcell
  clear hp
  have htot := Lib.hid (cat_take_le ps)
  replace hn := Lib.hid hn
  go_enter Try.func38, Try.ntmps38
  go_wp2_with fail
  go_loopg [3, 9] n (fun gk v3 v9 wr => ∃ (k : Nat) (Z : ByteArray), v3 = .string Z ∧ v9 = .int .i64 k ∧ k ≤ n ∧ gk = n - k ∧ Hid (Z = bstr (cat (ps.take k))) ∧ Hid (Chg [] w wr))
  case atStart => exact ⟨0, _, rfl, rfl, by omega, rfl, Lib.hid rfl, hC⟩
  case round =>
    obtain ⟨k, Z, rfl, rfl, hk, rfl, hZ, hC2⟩ := hrel
    clear hC
    by_cases hlt : k < n
    · obtain ⟨p, hpk⟩ : ∃ p, ps[k]? = some p := ⟨_, List.getElem?_eq_getElem (by have := hn.out; omega)⟩
      obtain ⟨b, o, rfl, q0, q1⟩ := hcell.out k p hpk
      replace q0 := hC2.out.cell q0 (by simp)
      replace q1 := hC2.out.cell q1 (by simp)
      rw [← Nat.add_assoc] at q1
      have hs := cat_succ hpk
      have ht := htot.out (k + 1)
      rw [hs, List.length_append] at ht
      obtain ⟨Y, hY⟩ : ∃ Y, bstr p.s = Y := ⟨_, rfl⟩
      rw [hY] at q1
      have hYs : Y.size = p.s.length := by rw [← hY]; rfl
      have hZs : Z.size = (cat (ps.take k)).length := by rw [hZ.out]; rfl
      have hcat : ¬ (9223372036854775807 < Z.size + Y.size) := by omega
      have hZ2 : Hid (Z ++ Y = bstr (cat (ps.take (k + 1)))) := Lib.hid (by
        rw [hs, ← hY, hZ.out]
        apply ByteArray.ext
        apply Array.ext'
        simp [bstr])
      clear hs ht hYs hZs hY hpk hZ
      obtain ⟨v, hv⟩ : ∃ v, p.var = v := ⟨_, rfl⟩
      rw [hv] at q0
      clear hv
      have hC3 := Lib.hid (hC2.out.alloc (.cells #[.bool v, .string Y] 37))
      go_wp2_with fail
      go_roundg (n - (k + 1))
      case measure => omega
      case rel => exact ⟨k + 1, _, rfl, rfl, by omega, rfl, hZ2, hC3⟩
    · obtain rfl : k = n := by omega
      have hZ2 := hZ.out
      rw [List.take_of_length_le (by have := hn.out; omega)] at hZ2
      clear hZ
      subst hZ2
      go_wp2_with fail
      go_ret
      exact ⟨rfl, hC2.out⟩
end Pl
end Go.Proofs.Ytnjjbiialpmhbaa
