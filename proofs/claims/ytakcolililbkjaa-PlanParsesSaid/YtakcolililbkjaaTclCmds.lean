/- How commands lie in memory. No condition. -/
import Derived.Test.YtakcolililbkjaaTclWord
set_option linter.unusedVariables false
set_option linter.unusedSimpArgs false
namespace Go.Proofs.Ytakcolililbkjaa
open Go.RowKit Tcl
/-- The words of a row; their parts' rows are no row of `row`, and not older than `base`. -/
def WordsAt (w : World) (base : Nat) (row : Option Nat) (xs : List Value) (ws : List Word) : Prop :=
  xs.length = ws.length * 3 ∧ ∀ (k : Nat) (wd : Word), ws[k]? = some wd → ∃ A c, xs[k * 3]? = some (.int .i64 wd.at_) ∧ xs[k * 3 + 1]? = some (.int .i64 wd.kind) ∧ xs[k * 3 + 2]? = some (.slice A wd.parts.length c) ∧
    PartsAt w (.slice A wd.parts.length c) wd.parts ∧ ∀ q, 0 < (partsCells wd.parts).length → (Value.slice A wd.parts.length c).ownBlock = some q → base ≤ q ∧ q < w.heap.size ∧ row ≠ some q
theorem WordsAt.nil (w : World) (base : Nat) (row : Option Nat) : WordsAt w base row [] [] := ⟨rfl, fun k wd h => by simp at h⟩
theorem WordsAt.chg {S : List Nat} {w w' : World} {base : Nat} {row : Option Nat} {xs : List Value} {ws : List Word} (h : WordsAt w base row xs ws) (hc : Chg S w w') (hS : ∀ k ∈ S, k < base ∨ row = some k ∨ w.heap.size ≤ k) : WordsAt w' base row xs ws := by
  refine ⟨h.1, fun k wd hk => ?_⟩
  obtain ⟨A, c, h1, h2, h3, h4, h5⟩ := h.2 k wd hk
  refine ⟨A, c, h1, h2, h3, h4.chg hc (fun h0 q hq hm => ?_), fun q h0 hq => ?_⟩
  · have := h5 q h0 hq
    rcases hS q hm with h6 | h6 | h6
    · omega
    · exact this.2.2 h6
    · omega
  · have := h5 q h0 hq
    exact ⟨this.1, Nat.lt_of_lt_of_le this.2.1 hc.size, this.2.2⟩
/-- Another row, that is the same or new. -/
theorem WordsAt.row {w : World} {base : Nat} {row row' : Option Nat} {xs : List Value} {ws : List Word} (h : WordsAt w base row xs ws) (hr : row' = row ∨ ∀ q, row' = some q → w.heap.size ≤ q) : WordsAt w base row' xs ws := by
  refine ⟨h.1, fun k wd hk => ?_⟩
  obtain ⟨A, c, h1, h2, h3, h4, h5⟩ := h.2 k wd hk
  refine ⟨A, c, h1, h2, h3, h4, fun q h0 hq => ?_⟩
  have := h5 q h0 hq
  refine ⟨this.1, this.2.1, fun e => ?_⟩
  rcases hr with hr | hr
  · exact this.2.2 (hr ▸ e)
  · have := hr q e; omega
/-- An older base, and a row that is older than the base that was. -/
theorem WordsAt.old {w : World} {base base' : Nat} {row row' : Option Nat} {xs : List Value} {ws : List Word} (h : WordsAt w base row xs ws) (hb : base' ≤ base) (hr : ∀ q, row' = some q → q < base) : WordsAt w base' row' xs ws := by
  refine ⟨h.1, fun k wd hk => ?_⟩
  obtain ⟨A, c, h1, h2, h3, h4, h5⟩ := h.2 k wd hk
  refine ⟨A, c, h1, h2, h3, h4, fun q h0 hq => ?_⟩
  have := h5 q h0 hq
  exact ⟨by omega, this.2.1, fun e => by have := hr q e; omega⟩
theorem WordsAt.less {w : World} {base base' : Nat} {row : Option Nat} {xs : List Value} {ws : List Word} (h : WordsAt w base row xs ws) (hb : base' ≤ base) : WordsAt w base' row xs ws := by
  refine ⟨h.1, fun k wd hk => ?_⟩
  obtain ⟨A, c, h1, h2, h3, h4, h5⟩ := h.2 k wd hk
  exact ⟨A, c, h1, h2, h3, h4, fun q h0 hq => ⟨Nat.le_trans hb (h5 q h0 hq).1, (h5 q h0 hq).2⟩⟩
theorem WordsAt.snoc {w : World} {base : Nat} {row : Option Nat} {xs : List Value} {ws : List Word} (h : WordsAt w base row xs ws) (wd : Word) (A : Option Addr) (c : Nat) (hp : PartsAt w (.slice A wd.parts.length c) wd.parts)
    (hq : ∀ q, 0 < (partsCells wd.parts).length → (Value.slice A wd.parts.length c).ownBlock = some q → base ≤ q ∧ row ≠ some q) : WordsAt w base row (xs ++ [.int .i64 wd.at_, .int .i64 wd.kind, .slice A wd.parts.length c]) (ws ++ [wd]) := by
  refine ⟨by rw [List.length_append, List.length_append, h.1]; simp; omega, fun k wd' hk => ?_⟩
  by_cases hlt : k < ws.length
  · rw [List.getElem?_append_left hlt] at hk
    obtain ⟨A', c', h1, h2, h3, h4⟩ := h.2 k wd' hk
    have hl := h.1
    refine ⟨A', c', ?_, ?_, ?_, h4⟩
    · rw [List.getElem?_append_left (by omega)]; exact h1
    · rw [List.getElem?_append_left (by omega)]; exact h2
    · rw [List.getElem?_append_left (by omega)]; exact h3
  · rw [List.getElem?_append_right (by omega)] at hk
    have hk0 : k - ws.length = 0 := by have := (List.getElem?_eq_some_iff.1 hk).1; simp at this; omega
    rw [hk0] at hk
    simp at hk; subst hk
    have hl := h.1
    have hkk : k = ws.length := by omega
    subst hkk
    refine ⟨A, c, ?_, ?_, ?_, hp, fun q h0 hq' => ?_⟩
    · rw [List.getElem?_append_right (by omega), hl]; simp
    · rw [List.getElem?_append_right (by omega), hl]; simp
    · rw [List.getElem?_append_right (by omega), hl]; simp
    · obtain ⟨k', hk', hlt'⟩ := Sl.block hp h0
      rw [hq'] at hk'; cases hk'
      exact ⟨(hq q h0 hq').1, hlt', (hq q h0 hq').2⟩
/-- The commands of a row. -/
def CmdsAt (w : World) (base : Nat) (row : Option Nat) (xs : List Value) (cs : List Cmd) : Prop :=
  xs.length = cs.length * 2 ∧ ∀ (k : Nat) (cm : Cmd), cs[k]? = some cm → ∃ A c ys, xs[k * 2]? = some (.int .i64 cm.at_) ∧ xs[k * 2 + 1]? = some (.slice A cm.words.length c) ∧
    Sl w 3 (.slice A cm.words.length c) cm.words.length ys ∧ WordsAt w base row ys cm.words ∧ ∀ q, 0 < ys.length → (Value.slice A cm.words.length c).ownBlock = some q → base ≤ q ∧ q < w.heap.size ∧ row ≠ some q
theorem CmdsAt.nil (w : World) (base : Nat) (row : Option Nat) : CmdsAt w base row [] [] := ⟨rfl, fun k wd h => by simp at h⟩
theorem CmdsAt.chg {S : List Nat} {w w' : World} {base : Nat} {row : Option Nat} {xs : List Value} {cs : List Cmd} (h : CmdsAt w base row xs cs) (hc : Chg S w w') (hS : ∀ k ∈ S, k < base ∨ row = some k ∨ w.heap.size ≤ k) : CmdsAt w' base row xs cs := by
  refine ⟨h.1, fun k cm hk => ?_⟩
  obtain ⟨A, c, ys, h1, h2, h3, h4, h5⟩ := h.2 k cm hk
  refine ⟨A, c, ys, h1, h2, h3.chg hc (fun h0 q hq hm => ?_), h4.chg hc hS, fun q h0 hq => ?_⟩
  · have := h5 q h0 hq
    rcases hS q hm with h6 | h6 | h6
    · omega
    · exact this.2.2 h6
    · omega
  · have := h5 q h0 hq
    exact ⟨this.1, Nat.lt_of_lt_of_le this.2.1 hc.size, this.2.2⟩
theorem CmdsAt.row {w : World} {base : Nat} {row row' : Option Nat} {xs : List Value} {cs : List Cmd} (h : CmdsAt w base row xs cs) (hr : row' = row ∨ ∀ q, row' = some q → w.heap.size ≤ q) : CmdsAt w base row' xs cs := by
  refine ⟨h.1, fun k cm hk => ?_⟩
  obtain ⟨A, c, ys, h1, h2, h3, h4, h5⟩ := h.2 k cm hk
  refine ⟨A, c, ys, h1, h2, h3, h4.row hr, fun q h0 hq => ?_⟩
  have := h5 q h0 hq
  refine ⟨this.1, this.2.1, fun e => ?_⟩
  rcases hr with hr | hr
  · exact this.2.2 (hr ▸ e)
  · have := hr q e; omega
theorem CmdsAt.snoc {w : World} {base : Nat} {row : Option Nat} {xs : List Value} {cs : List Cmd} (h : CmdsAt w base row xs cs) (cm : Cmd) (A : Option Addr) (c : Nat) (ys : List Value) (hp : Sl w 3 (.slice A cm.words.length c) cm.words.length ys) (hw : WordsAt w base row ys cm.words)
    (hq : ∀ q, 0 < ys.length → (Value.slice A cm.words.length c).ownBlock = some q → base ≤ q ∧ row ≠ some q) : CmdsAt w base row (xs ++ [.int .i64 cm.at_, .slice A cm.words.length c]) (cs ++ [cm]) := by
  refine ⟨by rw [List.length_append, List.length_append, h.1]; simp; omega, fun k cm' hk => ?_⟩
  by_cases hlt : k < cs.length
  · rw [List.getElem?_append_left hlt] at hk
    obtain ⟨A', c', ys', h1, h2, h3⟩ := h.2 k cm' hk
    have hl := h.1
    refine ⟨A', c', ys', ?_, ?_, h3⟩
    · rw [List.getElem?_append_left (by omega)]; exact h1
    · rw [List.getElem?_append_left (by omega)]; exact h2
  · rw [List.getElem?_append_right (by omega)] at hk
    have hk0 : k - cs.length = 0 := by have := (List.getElem?_eq_some_iff.1 hk).1; simp at this; omega
    rw [hk0] at hk
    simp at hk; subst hk
    have hl := h.1
    have hkk : k = cs.length := by omega
    subst hkk
    refine ⟨A, c, ys, ?_, ?_, hp, hw, fun q h0 hq' => ?_⟩
    · rw [List.getElem?_append_right (by omega), hl]; simp
    · rw [List.getElem?_append_right (by omega), hl]; simp
    · obtain ⟨k', hk', hlt'⟩ := Sl.block hp h0
      rw [hq'] at hk'; cases hk'
      exact ⟨(hq q h0 hq').1, hlt', (hq q h0 hq').2⟩
/-- A command's variable at block `b`. -/
def CS (w : World) (b : Nat) (v0 v1 : Value) : Prop := w.heap[b]? = some (.cells #[v0, v1] 69 (0, 0))
theorem CS.chg {S : List Nat} {w w' : World} {b : Nat} {v0 v1 : Value} (h : CS w b v0 v1) (hc : Chg S w w') (hb : b ∉ S) : CS w' b v0 v1 := hc.heap h hb
theorem CS.c0 {w : World} {b : Nat} {v0 v1 : Value} (h : CS w b v0 v1) : w.cell? ⟨b, 0, none⟩ = some v0 ∧ w.cell? ⟨b, 1, none⟩ = some v1 := by
  unfold CS at h; simp [World.cell?, h]
theorem CS.f0 {w : World} {b : Nat} {v0 v1 : Value} (h : CS w b v0 v1) (k : Nat) : w.frozen? ⟨b, k, none⟩ = false := by
  unfold CS at h; simp [World.frozen?, h]
/-- Another world, and a row that is the same or new. -/
theorem WordsAt.step {S : List Nat} {w w' : World} {base : Nat} {row row' : Option Nat} {xs : List Value} {ws : List Word} (h : WordsAt w base row xs ws) (hc : Chg S w w') (hS : ∀ k ∈ S, k < base ∨ row = some k ∨ w.heap.size ≤ k)
    (hr : row' = row ∨ ∀ q, row' = some q → w.heap.size ≤ q) : WordsAt w' base row' xs ws := by
  refine ⟨h.1, fun k wd hk => ?_⟩
  obtain ⟨A, c, h1, h2, h3, h4, h5⟩ := (h.row hr).2 k wd hk
  obtain ⟨A', c', h1', h2', h3', h4', h5'⟩ := h.2 k wd hk
  rw [h3] at h3'
  simp only [Option.some.injEq, Value.slice.injEq] at h3'
  obtain ⟨rfl, -, rfl⟩ := h3'
  refine ⟨A, c, h1, h2, h3, h4.chg hc (fun h0 q hq hm => ?_), fun q h0 hq => ?_⟩
  · have := h5' q h0 hq
    rcases hS q hm with h6 | h6 | h6
    · omega
    · exact this.2.2 h6
    · omega
  · have := h5 q h0 hq
    exact ⟨this.1, Nat.lt_of_lt_of_le this.2.1 hc.size, this.2.2⟩
/-- How far a command is: well so far, or something is wrong. -/
def CmGo (w0 w : World) (g : Nat) (s : List UInt8) (B : ByteArray) (i0 : Nat) (a0 : Int) (row : Option Nat) (xs : List Value) (n gk : Nat) : Prop :=
  (∃ (i : Nat) (ws : List Word), PS w g B i a0 0 ∧ WordsAt w (w0.heap.size + 2) row xs ws ∧ ws.length = n ∧ command s i0 [] = command s i ws ∧ i ≤ s.length ∧ n ≤ i ∧ gk = s.length - i)
  ∨ (∃ p q : Nat, PS w g B s.length p q ∧ command s i0 [] = .error (p, q) ∧ q ≠ 0 ∧ gk = 0)
/-- A word is read, and is not yet in the row. -/
def CmMid (w0 w : World) (g : Nat) (s : List UInt8) (B : ByteArray) (i0 : Nat) (a0 : Int) (row : Option Nat) (xs : List Value) (n : Nat) (v : List Value) (gk : Nat) : Prop :=
  (∃ (j : Nat) (ws : List Word) (wd : Word) (A : Option Addr) (c : Nat), PS w g B j a0 0 ∧ WordsAt w (w0.heap.size + 2) row xs ws ∧ ws.length = n ∧ command s i0 [] = command s j (ws ++ [wd]) ∧ j ≤ s.length ∧ n + 1 ≤ j ∧ gk = s.length - j ∧
    v = [.int .i64 wd.at_, .int .i64 wd.kind, .slice A wd.parts.length c] ∧ PartsAt w (.slice A wd.parts.length c) wd.parts ∧ ∀ q, 0 < (partsCells wd.parts).length → (Value.slice A wd.parts.length c).ownBlock = some q → w0.heap.size + 2 ≤ q ∧ row ≠ some q)
  ∨ (∃ p q : Nat, PS w g B s.length p q ∧ command s i0 [] = .error (p, q) ∧ q ≠ 0 ∧ gk = 0)
theorem CmMid.go {S : List Nat} {w0 W w' : World} {g : Nat} {s : List UInt8} {B : ByteArray} {i0 : Nat} {a0 : Int} {row row' : Option Nat} {xs v : List Value} {n gk : Nat} (h : CmMid w0 W g s B i0 a0 row xs n v gk) (hc : Chg S W w')
    (hS : ∀ k ∈ S, k ≠ g ∧ (k < w0.heap.size + 2 ∨ row = some k ∨ W.heap.size ≤ k)) (hr : row' = row ∨ ∀ q, row' = some q → W.heap.size ≤ q) : CmGo w0 w' g s B i0 a0 row' (xs ++ v) (n + 1) gk := by
  have hgS : g ∉ S := fun hm => (hS g hm).1 rfl
  rcases h with ⟨j, ws, wd, A, c, h1, h2, h3, h4, h5, h6, h7, rfl, h8, h9⟩ | ⟨p, q, h1, h2, h3, h4⟩
  · refine .inl ⟨j, ws ++ [wd], h1.chg hc hgS, WordsAt.snoc (h2.step hc (fun k hk => (hS k hk).2) hr) wd A c (h8.chg hc fun h0 q hq hm => ?_) fun q h0 hq => ?_, by simp [h3], h4, h5, h6, h7⟩
    · obtain ⟨k', hk', hlt'⟩ := Sl.block h8 h0
      rw [hq] at hk'; cases hk'
      have := h9 q h0 hq
      rcases (hS q hm).2 with h10 | h10 | h10
      · omega
      · exact this.2 h10
      · omega
    · obtain ⟨k', hk', hlt'⟩ := Sl.block h8 h0
      rw [hq] at hk'; cases hk'
      have := h9 q h0 hq
      refine ⟨this.1, fun e => ?_⟩
      rcases hr with hr | hr
      · exact this.2 (hr ▸ e)
      · have := hr q e; omega
  · exact .inr ⟨p, q, h1.chg hc hgS, h2, h3, h4⟩
/-- One element more in a variable's row. -/
theorem row_step {S : List Nat} {w0 W w1 : World} {bv br k2 size n c c' : Nat} {A A' : Option Addr} {v0 x0 x1 : Value} {t e : TypeId} {xs v : List Value} {ob : Obj}
    (h1 : W.heap[bv]? = some (.cells #[v0, .slice A n c] t (0, 0))) (hR : W.heap[br]? = some (.cells #[x0, x1] k2 (0, 0))) (hne : br ≠ bv) (ht : t ≠ e) (hk : k2 ≠ e) (h3 : W.ownsRow w0.heap.size e size (.slice A n c) n xs) (h5 : w0.heap.size ≤ bv)
    (hC : Chg S w0 W) (hO' : w1.ownsRow w0.heap.size e size (.slice A' (n + 1) c') (n + 1) (xs ++ v)) (hCh : Chg (Value.slice A n c).ownBlock.toList (W.alloc ob) w1) :
    w1.cell? ⟨bv, 1, none⟩ = some (.slice A n c) ∧ w1.frozen? ⟨bv, 1, none⟩ = false ∧ (w1.setCell ⟨bv, 1, none⟩ (.slice A' (n + 1) c')).heap[bv]? = some (.cells #[v0, .slice A' (n + 1) c'] t (0, 0)) ∧
    (w1.setCell ⟨bv, 1, none⟩ (.slice A' (n + 1) c')).heap[br]? = some (.cells #[x0, x1] k2 (0, 0)) ∧ (w1.setCell ⟨bv, 1, none⟩ (.slice A' (n + 1) c')).ownsRow w0.heap.size e size (.slice A' (n + 1) c') (n + 1) (xs ++ v) ∧
    Chg S w0 (w1.setCell ⟨bv, 1, none⟩ (.slice A' (n + 1) c')) ∧ Chg ((Value.slice A n c).ownBlock.toList ++ [bv]) W (w1.setCell ⟨bv, 1, none⟩ (.slice A' (n + 1) c')) := by
  have k1 := own_not h3 h1 ht
  have k3 := own_not h3 hR hk
  have G1 := hCh.heap (blk_alloc h1 ob) (fun hm => k1 (by simpa using hm))
  have G2 := hCh.heap (blk_alloc hR ob) (fun hm => k3 (by simpa using hm))
  have n2 := own_not hO' G1 ht
  refine ⟨by simp [World.cell?, G1], by simp [World.frozen?, G1], blk_set G1 1 _, blk_set_ne G2 hne 1 _, own_set hO' _ _ _ n2, ?_, ?_⟩
  · exact ((hC.alloc ob).then hCh (fun q hq => .inr (h3.lt q (by simpa using hq)).1)).setCell (.inr h5) _
  · exact (((Chg.refl _ W).alloc ob).trans (hCh.mono (fun x hx => .inl (List.mem_append_left _ hx)))).setCell (.inl (by simp)) _
theorem CmdsAt.step {S : List Nat} {w w' : World} {base : Nat} {row row' : Option Nat} {xs : List Value} {cs : List Cmd} (h : CmdsAt w base row xs cs) (hc : Chg S w w') (hS : ∀ k ∈ S, k < base ∨ row = some k ∨ w.heap.size ≤ k)
    (hr : row' = row ∨ ∀ q, row' = some q → w.heap.size ≤ q) : CmdsAt w' base row' xs cs := by
  refine ⟨h.1, fun k cm hk => ?_⟩
  obtain ⟨A, c, ys, h1, h2, h3, h4, h5⟩ := h.2 k cm hk
  refine ⟨A, c, ys, h1, h2, h3.chg hc (fun h0 q hq hm => ?_), h4.step hc hS hr, fun q h0 hq => ?_⟩
  · have := h5 q h0 hq
    rcases hS q hm with h6 | h6 | h6
    · omega
    · exact this.2.2 h6
    · omega
  · have := h5 q h0 hq
    refine ⟨this.1, Nat.lt_of_lt_of_le this.2.1 hc.size, fun e => ?_⟩
    rcases hr with hr | hr
    · exact this.2.2 (hr ▸ e)
    · have := hr q e; omega
theorem CmdsAt.less {w : World} {base base' : Nat} {row : Option Nat} {xs : List Value} {cs : List Cmd} (h : CmdsAt w base row xs cs) (hb : base' ≤ base) : CmdsAt w base' row xs cs := by
  refine ⟨h.1, fun k wd hk => ?_⟩
  obtain ⟨A, c, ys, h1, h2, h3, h4, h5⟩ := h.2 k wd hk
  exact ⟨A, c, ys, h1, h2, h3, h4.less hb, fun q h0 hq => ⟨Nat.le_trans hb (h5 q h0 hq).1, (h5 q h0 hq).2⟩⟩
/-- How far Parse is: well so far, or something is wrong. -/
def PaGo (w0 w : World) (g : Nat) (s : List UInt8) (B : ByteArray) (row : Option Nat) (xs : List Value) (n gk : Nat) : Prop :=
  (∃ (i : Nat) (cs : List Cmd), PS w g B i 0 0 ∧ CmdsAt w (w0.heap.size + 1) row xs cs ∧ cs.length = n ∧ parseGo s 0 [] = parseGo s i cs ∧ i ≤ s.length ∧ n ≤ i ∧ gk = s.length - i)
  ∨ (∃ p q : Nat, PS w g B s.length p q ∧ parseGo s 0 [] = .error (p, q) ∧ q ≠ 0 ∧ gk = 0)
/-- A command is read, and is not yet in the row. -/
def PaMid (w0 w : World) (g : Nat) (s : List UInt8) (B : ByteArray) (row : Option Nat) (xs : List Value) (n : Nat) (v : List Value) (gk : Nat) : Prop :=
  (∃ (j : Nat) (cs : List Cmd) (cm : Cmd) (A : Option Addr) (c : Nat) (ys : List Value), PS w g B j 0 0 ∧ CmdsAt w (w0.heap.size + 1) row xs cs ∧ cs.length = n ∧ parseGo s 0 [] = parseGo s j (cs ++ [cm]) ∧ j ≤ s.length ∧ n + 1 ≤ j ∧ gk = s.length - j ∧
    v = [.int .i64 cm.at_, .slice A cm.words.length c] ∧ Sl w 3 (.slice A cm.words.length c) cm.words.length ys ∧ WordsAt w (w0.heap.size + 1) row ys cm.words ∧ ∀ q, 0 < ys.length → (Value.slice A cm.words.length c).ownBlock = some q → w0.heap.size + 1 ≤ q ∧ row ≠ some q)
  ∨ (∃ p q : Nat, PS w g B s.length p q ∧ parseGo s 0 [] = .error (p, q) ∧ q ≠ 0 ∧ gk = 0)
theorem PaMid.go {S : List Nat} {w0 W w' : World} {g : Nat} {s : List UInt8} {B : ByteArray} {row row' : Option Nat} {xs v : List Value} {n gk : Nat} (h : PaMid w0 W g s B row xs n v gk) (hc : Chg S W w')
    (hS : ∀ k ∈ S, k ≠ g ∧ (k < w0.heap.size + 1 ∨ row = some k ∨ W.heap.size ≤ k)) (hr : row' = row ∨ ∀ q, row' = some q → W.heap.size ≤ q) : PaGo w0 w' g s B row' (xs ++ v) (n + 1) gk := by
  have hgS : g ∉ S := fun hm => (hS g hm).1 rfl
  rcases h with ⟨j, cs, cm, A, c, ys, h1, h2, h3, h4, h5, h6, h7, rfl, h8, h8', h9⟩ | ⟨p, q, h1, h2, h3, h4⟩
  · refine .inl ⟨j, cs ++ [cm], h1.chg hc hgS, CmdsAt.snoc (h2.step hc (fun k hk => (hS k hk).2) hr) cm A c ys (h8.chg hc fun h0 q hq hm => ?_) (h8'.step hc (fun k hk => (hS k hk).2) hr) fun q h0 hq => ?_, by simp [h3], h4, h5, h6, h7⟩
    · obtain ⟨k', hk', hlt'⟩ := Sl.block h8 h0
      rw [hq] at hk'; cases hk'
      have := h9 q h0 hq
      rcases (hS q hm).2 with h10 | h10 | h10
      · omega
      · exact this.2 h10
      · omega
    · obtain ⟨k', hk', hlt'⟩ := Sl.block h8 h0
      rw [hq] at hk'; cases hk'
      have := h9 q h0 hq
      refine ⟨this.1, fun e => ?_⟩
      rcases hr with hr | hr
      · exact this.2 (hr ▸ e)
      · have := hr q e; omega
  · exact .inr ⟨p, q, h1.chg hc hgS, h2, h3, h4⟩
end Go.Proofs.Ytakcolililbkjaa
