/- What package plan's command leans on. Conditions: as they state. -/
import Derived.Test.YtakcolililbkjaaPlWs
set_option linter.unusedVariables false
set_option linter.unusedSimpArgs false
namespace Go.Proofs.Ytakcolililbkjaa
namespace Pl
open Go.RowKit Tcl Plan
theorem Try.size_op : (Try.prog.info? 35).map (·.size) = some 4 := by kernel_rfl
/-- An operation as a variable. -/
def OS (w : World) (g : Nat) (k a : Int) (s b : Value) : Prop := w.heap[g]? = some (.cells #[.int .i64 k, .int .i64 a, s, b] 35 (0, 0))
/-- A form as a variable. -/
def FS (w : World) (g : Nat) (k lo hi : Int) : Prop := w.heap[g]? = some (.cells #[.int .i64 k, .int .i64 lo, .int .i64 hi] 82 (0, 0))
theorem OS.chg {S : List Nat} {w w' : World} {g : Nat} {k a : Int} {s b : Value} (h : OS w g k a s b) (hc : Chg S w w') (hg : g ∉ S) : OS w' g k a s b := hc.heap h hg
theorem FS.chg {S : List Nat} {w w' : World} {g : Nat} {k a d : Int} (h : FS w g k a d) (hc : Chg S w w') (hg : g ∉ S) : FS w' g k a d := hc.heap h hg
theorem FS.c0 {w : World} {g : Nat} {k a d : Int} (h : FS w g k a d) : w.cell? ⟨g, 0, none⟩ = some (.int .i64 k) ∧ w.cell? ⟨g, 1, none⟩ = some (.int .i64 a) ∧ w.cell? ⟨g, 2, none⟩ = some (.int .i64 d) := by
  unfold FS at h; simp [World.cell?, h]
theorem op_one {k a : Int} {s b : Value} (hs : s.oneCell' = true) (hb : b.oneCell' = true) : (#[Value.int .i64 k, .int .i64 a, s, b]).all (·.oneCell') = true := by
  rw [Array.all_eq_true']; intro v hv; simp at hv; rcases hv with rfl | rfl | rfl | rfl <;> first | rfl | exact hs | exact hb
theorem wpList_store_op {ops : Array Oper} {rest : List Oper} {o : Oper} {a : Act} {w : World} {Q : Exit → Act → World → Prop} (hgd : o.guard = none) (x y : Operand) (ho : o.op = .store 35 x y) (g : Nat) (k c : Int) (s b : Value)
    (hs : s.oneCell' = true) (hb : b.oneCell' = true) (hx : a.eval x = .pointer (some ⟨g, 0, none⟩)) (hy : a.eval y = .agg #[.int .i64 k, .int .i64 c, s, b]) {k0 c0 : Int} {s0 b0 : Value} (hg : OS w g k0 c0 s0 b0)
    (h : wpList Try.prog ops Q rest (a.put o.dst undef) (w.setRow g #[.int .i64 k, .int .i64 c, s, b])) : wpList Try.prog ops Q (o :: rest) a w :=
  wpList_store_row hgd 35 x y ho g #[.int .i64 k, .int .i64 c, s, b] hx hy 35 _ hg Try.size_op rfl (op_one hs hb) h
theorem wp_store_op {o : Oper} {a : Act} {w : World} {K : Act → World → Prop} {Q : Exit → Act → World → Prop} (x y : Operand) (ho : o.op = .store 35 x y) (g : Nat) (k c : Int) (s b : Value)
    (hs : s.oneCell' = true) (hb : b.oneCell' = true) (hx : a.eval x = .pointer (some ⟨g, 0, none⟩)) (hy : a.eval y = .agg #[.int .i64 k, .int .i64 c, s, b]) {k0 c0 : Int} {s0 b0 : Value} (hg : OS w g k0 c0 s0 b0)
    (h : K (a.put o.dst undef) (w.setRow g #[.int .i64 k, .int .i64 c, s, b])) : o.wp Try.prog a w K Q :=
  wp_store_row 35 x y ho g #[.int .i64 k, .int .i64 c, s, b] hx hy 35 _ hg Try.size_op rfl (op_one hs hb) h
theorem OS.put {w : World} {g : Nat} {k a : Int} {s b : Value} (h : OS w g k a s b) (k' a' : Int) (s' b' : Value) : OS (w.setRow g #[.int .i64 k', .int .i64 a', s', b']) g k' a' s' b' := setRow_heap _ _ _ _ _ _ h
theorem results_cell_cell {P : Program} {fn : Func} {u p : Tmp} {ty0 ty : TypeId} (h : fn.results = #[.cell u ty0, .cell p ty]) (tmps : Array Value) (w : World) (g0 g : Nat) (t0 t : TypeId) (cs0 cs : Array Value) (d0 d : TypeDesc)
    (hp0 : tmps.getD u undef = .pointer (some ⟨g0, 0, none⟩)) (hp : tmps.getD p undef = .pointer (some ⟨g, 0, none⟩)) (hg0 : w.heap[g0]? = some (.cells cs0 t0 (0, 0))) (hg : w.heap[g]? = some (.cells cs t (0, 0)))
    (hu0 : P.underlying ty0 = some d0) (hd0 : (match d0 with | .struct _ | .array _ _ => true | _ => false) = true) (hi0 : (P.info? ty0).map (·.size) = some cs0.size)
    (hu : P.underlying ty = some d) (hd : (match d with | .struct _ | .array _ _ => true | _ => false) = true) (hi : (P.info? ty).map (·.size) = some cs.size) :
    (results fn tmps).run P w = .ok (.tuple #[.agg cs0, .agg cs]) w := by
  have hp0' : tmps[u]?.getD undef = .pointer (some ⟨g0, 0, none⟩) := by simpa using hp0
  have hp' : tmps[p]?.getD undef = .pointer (some ⟨g, 0, none⟩) := by simpa using hp
  simp [results, h, hp', hp0', asAddr, run_loadVar_row w g0 t0 ty0 cs0 (0, 0) d0 hg0 hu0 hd0 hi0, run_loadVar_row w g t ty cs (0, 0) d hg hu hd hi, Result.andThen]
/-- What `forms` tells of a name. -/
theorem form_look (s : List UInt8) : lookB (bstr s) formsB = (formOf s).map (fun x => .agg #[.int .i64 (x.1 : Int), .int .i64 (x.2.1 : Int), .int .i64 (x.2.2 : Int)]) := by
  rw [formOf, ← lookB_look s formL (fun x => Value.agg #[.int .i64 (x.1 : Int), .int .i64 (x.2.1 : Int), .int .i64 (x.2.2 : Int)])]; rfl
theorem look_mem {α : Type} {s : List UInt8} {a : α} : ∀ {l : List (List UInt8 × α)}, Plan.look s l = some a → ∃ k, (k, a) ∈ l := by
  intro l
  induction l with
  | nil => intro h; cases h
  | cons p r ih =>
    intro h
    rw [Plan.look] at h
    split at h
    · cases h; exact ⟨p.1, by simp⟩
    · obtain ⟨k, hk⟩ := ih h; exact ⟨k, by simp [hk]⟩
theorem form_bounds {s : List UInt8} {k lo hi : Nat} (h : formOf s = some (k, lo, hi)) : k ≤ 8 ∧ lo ≤ 2 ∧ hi ≤ 1073741824 := by
  obtain ⟨n, hm⟩ := look_mem h
  simp [formL] at hm
  omega
/-- An expect's words are within bounds. -/
theorem argsA_wd {L M : Nat} {args ws : List Word} (hw : Wd L M args) (h : argsA args = .ok ws) : Wd L M ws := by
  unfold argsA at h
  split at h
  · rename_i a
    split at h
    · rename_i hk
      obtain ⟨h1, h2⟩ := hw a (by simp)
      obtain ⟨h3, h4⟩ := h2 hk
      split at h
      · cases h
      · rename_i l hp
        cases h
        intro wd hwd
        obtain ⟨xs, k1, k2⟩ := List.mem_flatten.1 hwd
        obtain ⟨c, k3, rfl⟩ := List.mem_map.1 k1
        unfold parseAt at hp
        split at hp
        · cases hp
        · rename_i cs hcs
          cases hp
          obtain ⟨c0, k4, rfl⟩ := List.mem_map.1 k3
          obtain ⟨w0, k5, rfl⟩ := List.mem_map.1 k2
          have hin := ((parse_row hcs).1 c0 k4).2.2 w0 k5
          have i1 := hin.1
          refine ⟨by simp only [shiftW]; omega, fun hk2 => ?_⟩
          have i2 := hin.2 hk2
          rw [openT_sh]
          simp only [shiftW]
          omega
    · cases h; exact hw
  · cases h; exact hw
/-- How many words. -/
theorem flat_le {t : List UInt8} {b : Nat} {cs : List Cmd} (h : parseAt t b = .ok cs) : (cs.map (fun c => c.words.length)).sum ≤ t.length := by
  unfold parseAt at h
  split at h
  · cases h
  · rename_i l hp
    cases h
    have := (parse_row hp).2.2.1
    rw [List.map_map]
    have e : (fun c : Cmd => c.words.length) ∘ shiftC b = fun c => c.words.length := by funext c; simp [shiftC]
    rw [e]; exact this
/-- An expect of these arms. -/
def expA (at_ : Nat) : Except Bad (List Arm) → Except Bad Plan.Op
  | .error b => .error b
  | .ok [] => .error (at_, 2)
  | .ok (a :: r) => .ok (.mk 3 at_ [] (a :: r))
/-- Commands in a slice. -/
def CmV (w : World) (B : Nat → Prop) (v : Value) (cs : List Cmd) : Prop := ∃ xs, Sl w 2 v cs.length xs ∧ Blk w B v cs.length ∧ cmdsC w B xs cs
theorem CmV.chg {S : List Nat} {w w' : World} {B : Nat → Prop} {v : Value} {l : List Cmd} (h : CmV w B v l) (hc : Chg S w w') (hS : ∀ q, B q → q < w.heap.size → q ∉ S) : CmV w' B v l := by
  obtain ⟨xs, h1, h2, h3⟩ := h
  have l1 := h1.len
  exact ⟨xs, h1.chg hc (fun h0 q hq => hS q (h2 q (by omega) hq).1 (h2 q (by omega) hq).2), h2.chg hc, cmdsC.chg hc hS h3⟩
theorem CmV.imp {w : World} {B B' : Nat → Prop} {v : Value} {l : List Cmd} (h : CmV w B v l) (hi : ∀ q, B q → q < w.heap.size → B' q) : CmV w B' v l := by
  obtain ⟨xs, h1, h2, h3⟩ := h
  exact ⟨xs, h1, h2.imp hi, cmdsC.imp hi h3⟩
/-- What `parse` has told, later on. -/
def PpO (wx : World) (base g : Nat) (r : Except Bad (List Cmd)) (V : Value) (p q : Nat) : Prop :=
  (∃ l A c, r = .ok l ∧ V = .slice A (List.length l) c ∧ p = 0 ∧ q = 0 ∧ CmV wx (fun x => base ≤ x ∧ x ≠ g) (.slice A (List.length l) c) l) ∨ (r = .error (p, q) ∧ q ≠ 0 ∧ V = .slice none 0 0)
theorem PpEnd.some {w : World} {t : List UInt8} {b : Nat} {e : Ending} {w' : World} (h : PpEnd w t b e w') : Chg [] w w' ∧ ∃ V p q, e = .returned (.tuple #[V, .agg #[.int .i64 ((p : Nat) : Int), .int .i64 ((q : Nat) : Int)]]) ∧
    ∀ (base g : Nat) (S : List Nat) (wx : World), base ≤ w.heap.size → Chg S w' wx → (∀ k ∈ S, k < w.heap.size ∨ w'.heap.size ≤ k) → (g < w.heap.size ∨ w'.heap.size ≤ g) → PpO wx base g (parseAt t b) V p q := by
  obtain ⟨hC, ⟨l, A, c, xs, h1, rfl, h2⟩ | ⟨p, q, h1, h2, rfl⟩⟩ := h
  · refine ⟨hC, _, 0, 0, rfl, fun base g S wx hb hc hS hg => .inl ⟨l, A, c, h1, rfl, rfl, rfl, ?_⟩⟩
    exact (CmV.imp (B' := fun x => w.heap.size ≤ x ∧ x < w'.heap.size) ⟨xs, h2⟩ (fun q hq hl => ⟨hq, hl⟩)).chg hc (fun q hq _ hm => by rcases hS q hm with h | h <;> omega) |>.imp (fun q hq _ => ⟨by omega, by rcases hg with h | h <;> omega⟩)
  · exact ⟨hC, _, p, q, rfl, fun base g S wx hb hc hS hg => .inr ⟨h1, h2, rfl⟩⟩
/-- Words' cells are single. -/
theorem wordsC.one {w : World} {B : Nat → Prop} : ∀ {ws : List Word} {xs : List Value}, wordsC w B xs ws → ∀ u ∈ xs, u.oneCell' = true := by
  intro ws
  induction ws with
  | nil => intro xs h u hu; rw [show xs = [] from h] at hu; cases hu
  | cons wd r ih =>
    intro xs h u hu
    obtain ⟨a, t, rfl, ⟨A, c, rfl, -⟩, h3⟩ := h
    rcases List.mem_append.1 hu with hu | hu
    · simp at hu
      rcases hu with rfl | rfl | rfl <;> rfl
    · exact ih h3 u hu
theorem sum_take_le (f : Cmd → Nat) (cs : List Cmd) (i : Nat) : ((cs.take i).map f).sum ≤ (cs.map f).sum := by
  have : cs.map f = (cs.take i).map f ++ (cs.drop i).map f := by rw [← List.map_append, List.take_append_drop]
  rw [this, List.sum_append]; omega
theorem flat_len (cs : List Cmd) : (cs.map Cmd.words).flatten.length = (cs.map (fun c => c.words.length)).sum := by
  rw [List.length_flatten, List.map_map]; rfl
theorem flat_succ {cs : List Cmd} {i : Nat} {cm : Cmd} (h : cs[i]? = some cm) : ((cs.take (i + 1)).map Cmd.words).flatten = ((cs.take i).map Cmd.words).flatten ++ cm.words := by
  rw [List.take_add_one, h]; simp
end Pl
end Go.Proofs.Ytakcolililbkjaa
