/- A slice of words, from its head; what package plan's functions tell. No condition. -/
import Derived.Test.YtakcolililbkjaaPlParse
import Derived.Test.YtakcolililbkjaaPlOpen
import Derived.Test.YtakcolililbkjaaPlOps
import Derived.Test.YtakcolililbkjaaPlShift
set_option linter.unusedVariables false
set_option linter.unusedSimpArgs false
namespace Go.Proofs.Ytakcolililbkjaa
namespace Pl
open Go.RowKit Tcl Plan
theorem Try.info_word' : (Try.prog.info? 38).map (fun i => (i.zero, i.size, i.bytes)) = some (some (.agg #[.int .i64 0, .int .i64 0, .slice none 0 0]), 3, 40) := by kernel_rfl
/-- Words in a slice. -/
def WsV (w : World) (B : Nat → Prop) (A : Option Addr) (n c : Nat) (ws : List Word) : Prop := n = ws.length ∧ ∃ ys, Sl w 3 (.slice A n c) n ys ∧ Blk w B (.slice A n c) n ∧ wordsC w B ys ws
theorem WsV.chg {S : List Nat} {w w' : World} {B : Nat → Prop} {A : Option Addr} {n c : Nat} {ws : List Word} (h : WsV w B A n c ws) (hc : Chg S w w') (hS : ∀ q, B q → q < w.heap.size → q ∉ S) : WsV w' B A n c ws := by
  obtain ⟨h0, ys, h1, h2, h3⟩ := h
  have hl := h1.len
  exact ⟨h0, ys, h1.chg hc (fun hx q hq => hS q (h2 q (by omega) hq).1 (h2 q (by omega) hq).2), h2.chg hc, wordsC.chg hc hS h3⟩
theorem WsV.imp {w : World} {B B' : Nat → Prop} {A : Option Addr} {n c : Nat} {ws : List Word} (h : WsV w B A n c ws) (hi : ∀ q, B q → q < w.heap.size → B' q) : WsV w B' A n c ws := by
  obtain ⟨h0, ys, h1, h2, h3⟩ := h
  exact ⟨h0, ys, h1, h2.imp hi, wordsC.imp hi h3⟩
theorem WsV.max {w : World} {B : Nat → Prop} {A : Option Addr} {n c : Nat} {ws : List Word} (h : WsV w B A n c ws) : n ≤ 9223372036854775807 := by
  obtain ⟨h0, ys, ⟨A0, c0, e, k0, k1, k2, k3⟩, h2, h3⟩ := h
  simp only [Value.slice.injEq] at e
  obtain ⟨rfl, -, rfl⟩ := e
  unfold maxLen at k2
  omega
/-- The first word of a slice. -/
theorem WsV.head {w : World} {B : Nat → Prop} {A : Option Addr} {n c : Nat} {wd : Word} {r : List Word} (h : WsV w B A n c (wd :: r)) :
    ∃ b o Ap cp, A = some ⟨b, o, none⟩ ∧ w.cell? ⟨b, o, none⟩ = some (.int .i64 wd.at_) ∧ w.cell? ⟨b, o + 1, none⟩ = some (.int .i64 wd.kind) ∧ w.cell? ⟨b, o + 2, none⟩ = some (.slice Ap wd.parts.length cp) ∧
      PartsAt w (.slice Ap wd.parts.length cp) wd.parts ∧ Blk w B (.slice Ap wd.parts.length cp) wd.parts.length ∧ wd.parts.length ≤ 9223372036854775807 := by
  obtain ⟨h0, ys, h1, h2, h3⟩ := h
  have hl := wordsC.len h3
  obtain ⟨b, o, rfl, hr⟩ := sl_row h1 (by rw [hl, List.length_cons]; omega)
  obtain ⟨Ap, cp, e1, e2, e3, h4, h5⟩ := wordsC.get (k := 0) h3 rfl
  refine ⟨b, o, Ap, cp, rfl, hr 0 _ e1, hr 1 _ e2, hr 2 _ e3, h4, h5, ?_⟩
  obtain ⟨A0, c0, e, k0, k1, k2, k3⟩ := h4
  simp only [Value.slice.injEq] at e
  obtain ⟨rfl, -, rfl⟩ := e
  unfold maxLen at k2
  omega
theorem WsV.tail {w : World} {B : Nat → Prop} {A : Option Addr} {n c : Nat} {wd : Word} {r : List Word} (h : WsV w B A n c (wd :: r)) :
    ∃ A' c', (∀ w' : World, (Instr.slice 32 (.slice A n c) (some (.int .i64 1)) none none).run Try.prog w' = .ok (.slice A' r.length c') w') ∧ WsV w B A' r.length c' r := by
  obtain ⟨h0, ys, h1, h2, h3⟩ := h
  rw [List.length_cons] at h0
  obtain ⟨A', c', hs, hS, hbk⟩ := slice_from (P := Try.prog) 32 38 Try.underlying32 Try.info_word' h1 1 (by omega) r.length (by omega)
  obtain ⟨p, t, rfl, h4, h5⟩ := h3
  have hl := h4.len
  refine ⟨A', c', hs, rfl, t, ?_, fun q hq0 hq => ?_, h5⟩
  · have e : (p ++ t).drop ((1 : Int).toNat * 3) = t := by rw [show (1 : Int).toNat * 3 = p.length from hl.symm, List.drop_left]
    rw [e] at hS
    exact hS
  · rw [hbk] at hq
    exact h2 q (by omega) hq
/-- Words within bounds. -/
def Wd (L M : Nat) (ws : List Word) : Prop := ∀ wd ∈ ws, wd.at_ ≤ M ∧ (wd.kind = 2 → (openT wd).length < L ∧ wd.at_ + 1 + (openT wd).length ≤ M)
theorem Wd.tail {L M : Nat} {wd : Word} {r : List Word} (h : Wd L M (wd :: r)) : Wd L M r := fun x hx => h x (by simp [hx])
/-- What `script` tells. -/
def ScEnd (w : World) (r : Except Bad (List Plan.Op)) (e : Ending) (w' : World) : Prop :=
  Chg [] w w' ∧ ((∃ l A c, r = .ok l ∧ e = .returned (.tuple #[.slice A (List.length l) c, .agg #[.int .i64 0, .int .i64 0]]) ∧ OpsV w' (fun q => w.heap.size ≤ q) (.slice A (List.length l) c) l)
    ∨ (∃ p q : Nat, r = .error (p, q) ∧ q ≠ 0 ∧ e = .returned (.tuple #[.slice none 0 0, .agg #[.int .i64 p, .int .i64 q]])))
/-- What `list` tells. -/
def LiEnd (w : World) (B : Nat → Prop) (r : Except Bad (List Arm)) (e : Ending) (w' : World) : Prop :=
  Chg [] w w' ∧ ((∃ l A c zs, r = .ok l ∧ e = .returned (.tuple #[.slice A (List.length l) c, .agg #[.int .i64 0, .int .i64 0]]) ∧ Sl w' 5 (.slice A (List.length l) c) l.length zs ∧ Blk w' B (.slice A (List.length l) c) l.length ∧ armsC w' B zs l)
    ∨ (∃ p q : Nat, r = .error (p, q) ∧ q ≠ 0 ∧ e = .returned (.tuple #[.slice none 0 0, .agg #[.int .i64 p, .int .i64 q]])))
/-- What `command` tells. -/
def CoEnd (w : World) (B : Nat → Prop) (r : Except Bad Plan.Op) (e : Ending) (w' : World) : Prop :=
  Chg [] w w' ∧ ((∃ o v0 v1 v2 v3, r = .ok o ∧ e = .returned (.tuple #[.agg #[v0, v1, v2, v3], .agg #[.int .i64 0, .int .i64 0]]) ∧ opC w' B [v0, v1, v2, v3] o)
    ∨ (∃ p q : Nat, r = .error (p, q) ∧ q ≠ 0 ∧ e = .returned (.tuple #[.agg #[.int .i64 0, .int .i64 0, .slice none 0 0, .slice none 0 0], .agg #[.int .i64 p, .int .i64 q]])))
/-- `script` tells what `rec` says, of texts shorter than `L` that end at `M` at most. -/
def RecOk (rec : List UInt8 → Nat → Except Bad (List Plan.Op)) (L M : Nat) : Prop :=
  ∀ (W : World) (u : List UInt8) (b : Nat), u.length < L → b + u.length ≤ M → Calls Try.prog 16 #[.string (bstr u), .int .i64 b, .bool true] W (ScEnd W (rec u b))
/-- An arm as a variable. -/
def AS (w : World) (g : Nat) (k a d : Int) (s b : Value) : Prop := w.heap[g]? = some (.cells #[.int .i64 k, .int .i64 a, .int .i64 d, s, b] 40 (0, 0))
/-- A word as a variable. -/
def VS (w : World) (g : Nat) (a d : Int) (s : Value) : Prop := w.heap[g]? = some (.cells #[.int .i64 a, .int .i64 d, s] 38 (0, 0))
theorem AS.c0 {w : World} {g : Nat} {k a d : Int} {s b : Value} (h : AS w g k a d s b) : w.cell? ⟨g, 0, none⟩ = some (.int .i64 k) ∧ w.cell? ⟨g, 1, none⟩ = some (.int .i64 a) ∧ w.cell? ⟨g, 2, none⟩ = some (.int .i64 d) ∧ w.cell? ⟨g, 3, none⟩ = some s ∧ w.cell? ⟨g, 4, none⟩ = some b := by
  unfold AS at h; simp [World.cell?, h]
theorem AS.f0 {w : World} {g : Nat} {k a d : Int} {s b : Value} (h : AS w g k a d s b) (j : Nat) : w.frozen? ⟨g, j, none⟩ = false := by unfold AS at h; simp [World.frozen?, h]
theorem VS.c0 {w : World} {g : Nat} {a d : Int} {s : Value} (h : VS w g a d s) : w.cell? ⟨g, 0, none⟩ = some (.int .i64 a) ∧ w.cell? ⟨g, 1, none⟩ = some (.int .i64 d) ∧ w.cell? ⟨g, 2, none⟩ = some s := by
  unfold VS at h; simp [World.cell?, h]
theorem WS.c0 {w : World} {g : Nat} {p q : Int} (h : WS w g p q) : w.cell? ⟨g, 0, none⟩ = some (.int .i64 p) ∧ w.cell? ⟨g, 1, none⟩ = some (.int .i64 q) := by
  unfold WS at h; simp [World.cell?, h]
theorem WS.f0 {w : World} {g : Nat} {p q : Int} (h : WS w g p q) (j : Nat) : w.frozen? ⟨g, j, none⟩ = false := by unfold WS at h; simp [World.frozen?, h]
theorem WS.put {w : World} {g : Nat} {p q : Int} (h : WS w g p q) (p' q' : Int) : WS ((w.setCell ⟨g, 0, none⟩ (.int .i64 p')).setCell ⟨g, 1, none⟩ (.int .i64 q')) g p' q' := blk_set (blk_set h 0 (.int .i64 p')) 1 (.int .i64 q')
theorem AS.put5 {w : World} {g : Nat} {k a d : Int} {s b : Value} (h : AS w g k a d s b) (k' a' d' : Int) (s' b' : Value) : AS (((((w.setCell ⟨g, 0, none⟩ (.int .i64 k')).setCell ⟨g, 1, none⟩ (.int .i64 a')).setCell ⟨g, 2, none⟩ (.int .i64 d')).setCell ⟨g, 3, none⟩ s').setCell ⟨g, 4, none⟩ b') g k' a' d' s' b' :=
  blk_set (blk_set (blk_set (blk_set (blk_set h 0 (.int .i64 k')) 1 (.int .i64 a')) 2 (.int .i64 d')) 3 s') 4 b'
theorem AS.put3 {w : World} {g : Nat} {k a d : Int} {s b : Value} (h : AS w g k a d s b) (a' d' : Int) (s' : Value) : AS (((w.setCell ⟨g, 1, none⟩ (.int .i64 a')).setCell ⟨g, 2, none⟩ (.int .i64 d')).setCell ⟨g, 3, none⟩ s') g k a' d' s' b :=
  blk_set (blk_set (blk_set h 1 (.int .i64 a')) 2 (.int .i64 d')) 3 s'
theorem AS.put1 {w : World} {g : Nat} {k a d : Int} {s b : Value} (h : AS w g k a d s b) (b' : Value) : AS (w.setCell ⟨g, 4, none⟩ b') g k a d s b' := blk_set h 4 b'
theorem Chg_setRow {S : List Nat} {a b : World} (h : Chg S a b) {g : Nat} (hg : g ∈ S ∨ a.heap.size ≤ g) (cs : Array Value) : Chg S a (b.setRow g cs) := by
  refine ⟨h.os, h.tape, h.output, by simpa using h.size, fun k hk hn => ?_⟩
  have hne : g ≠ k := by
    rintro rfl
    rcases hg with h1 | h1
    · exact hn h1
    · omega
  rw [← h.block k hk hn]
  simp only [World.setRow, Array.getElem?_modify]
  rw [if_neg hne]
theorem Try.size_arm : (Try.prog.info? 40).map (·.size) = some 5 := by kernel_rfl
theorem wpList_store_arm {ops : Array Oper} {rest : List Oper} {o : Oper} {a : Act} {w : World} {Q : Exit → Act → World → Prop} (hgd : o.guard = none) (x y : Operand) (ho : o.op = .store 40 x y) (g : Nat) (k c d : Int) (s b : Value)
    (hs : s.oneCell' = true) (hb : b.oneCell' = true) (hx : a.eval x = .pointer (some ⟨g, 0, none⟩)) (hy : a.eval y = .agg #[.int .i64 k, .int .i64 c, .int .i64 d, s, b]) {k0 c0 d0 : Int} {s0 b0 : Value} (hg : AS w g k0 c0 d0 s0 b0)
    (h : wpList Try.prog ops Q rest (a.put o.dst undef) (w.setRow g #[.int .i64 k, .int .i64 c, .int .i64 d, s, b])) : wpList Try.prog ops Q (o :: rest) a w :=
  wpList_store_row hgd 40 x y ho g #[.int .i64 k, .int .i64 c, .int .i64 d, s, b] hx hy 40 _ hg Try.size_arm rfl (by rw [Array.all_eq_true']; intro v hv; simp at hv; rcases hv with rfl | rfl | rfl | rfl | rfl <;> first | rfl | exact hs | exact hb) h
theorem WS.chg {S : List Nat} {w w' : World} {g : Nat} {p q : Int} (h : WS w g p q) (hc : Chg S w w') (hg : g ∉ S) : WS w' g p q := hc.heap h hg
theorem AS.chg {S : List Nat} {w w' : World} {g : Nat} {k a d : Int} {s b : Value} (h : AS w g k a d s b) (hc : Chg S w w') (hg : g ∉ S) : AS w' g k a d s b := hc.heap h hg
theorem VS.chg {S : List Nat} {w w' : World} {g : Nat} {a d : Int} {s : Value} (h : VS w g a d s) (hc : Chg S w w') (hg : g ∉ S) : VS w' g a d s := hc.heap h hg
/-- What `script` has told, later on: what it made lies from `base` on, and not at `g`. -/
def ScO (wx : World) (base g : Nat) (r : Except Bad (List Plan.Op)) (V : Value) (p q : Nat) : Prop :=
  (∃ l A c, r = .ok l ∧ V = .slice A (List.length l) c ∧ p = 0 ∧ q = 0 ∧ OpsV wx (fun x => base ≤ x ∧ x ≠ g) (.slice A (List.length l) c) l) ∨ (r = .error (p, q) ∧ q ≠ 0 ∧ V = .slice none 0 0)
theorem ScEnd.some {w : World} {r : Except Bad (List Plan.Op)} {e : Ending} {w' : World} (h : ScEnd w r e w') : Chg [] w w' ∧ ∃ V p q, e = .returned (.tuple #[V, .agg #[.int .i64 ((p : Nat) : Int), .int .i64 ((q : Nat) : Int)]]) ∧
    ∀ (base g : Nat) (S : List Nat) (wx : World), base ≤ w.heap.size → Chg S w' wx → (∀ k ∈ S, k < w.heap.size ∨ w'.heap.size ≤ k) → (g < w.heap.size ∨ w'.heap.size ≤ g) → ScO wx base g r V p q := by
  obtain ⟨hC, ⟨l, A, c, h1, rfl, h2⟩ | ⟨p, q, h1, h2, rfl⟩⟩ := h
  · refine ⟨hC, _, 0, 0, rfl, fun base g S wx hb hc hS hg => .inl ⟨l, A, c, h1, rfl, rfl, rfl, ?_⟩⟩
    exact (OpsV.imp (B' := fun x => w.heap.size ≤ x ∧ x < w'.heap.size) h2 (fun q hq hl => ⟨hq, hl⟩)).chg hc (fun q hq _ hm => by rcases hS q hm with h | h <;> omega) |>.imp (fun q hq _ => ⟨by omega, by rcases hg with h | h <;> omega⟩)
  · exact ⟨hC, _, p, q, rfl, fun base g S wx hb hc hS hg => .inr ⟨h1, h2, rfl⟩⟩
end Pl
end Go.Proofs.Ytakcolililbkjaa
