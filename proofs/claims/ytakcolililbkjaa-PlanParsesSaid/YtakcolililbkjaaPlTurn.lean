/- Places of commands and words are turned where they lie. No condition. -/
import Derived.Test.YtakcolililbkjaaPlCmds
set_option linter.unusedVariables false
set_option linter.unusedSimpArgs false
namespace Go.Proofs.Ytakcolililbkjaa
namespace Pl
open Go.RowKit Tcl Plan
theorem own_some {w : World} {base : Nat} {e : TypeId} {size n c : Nat} {A : Option Addr} {xs : List Value} (h : w.ownsRow base e size (.slice A n c) n xs) (hn : 0 < n) : ∃ g, A = some ⟨g, 0, none⟩ := by
  rcases h.2 with ⟨-, h0⟩ | ⟨g, cap, cur, h1, -⟩
  · omega
  · cases h1; exact ⟨g, rfl⟩
theorem own_cell {w : World} {base : Nat} {e : TypeId} {size n c g : Nat} {xs : List Value} (h : w.ownsRow base e size (.slice (some ⟨g, 0, none⟩) n c) n xs) {j : Nat} {u : Value} (hj : xs[j]? = some u) :
    w.cell? ⟨g, j, none⟩ = some u ∧ w.frozen? ⟨g, j, none⟩ = false := by
  obtain ⟨h0, h1⟩ := h
  rcases h1 with ⟨h1, -⟩ | ⟨g', cap, cur, h1, h2, h3, h4, h5, h6, h7⟩
  · cases h1
  · cases h1
    have hjl := (List.getElem?_eq_some_iff.1 hj).1
    rw [← h7, List.getElem?_take_of_lt (by omega)] at hj
    refine ⟨?_, by simp [World.frozen?, h3]⟩
    simp only [World.cell?, h3]
    simpa using hj
theorem own_put {w : World} {base : Nat} {e : TypeId} {size n c g : Nat} {xs : List Value} (h : w.ownsRow base e size (.slice (some ⟨g, 0, none⟩) n c) n xs) (j : Nat) (u : Value) :
    (w.setCell ⟨g, j, none⟩ u).ownsRow base e size (.slice (some ⟨g, 0, none⟩) n c) n (xs.set j u) := by
  obtain ⟨h0, h1⟩ := h
  refine ⟨by rw [List.length_set]; exact h0, ?_⟩
  rcases h1 with ⟨h1, -⟩ | ⟨g', cap, cur, h1, h2, h3, h4, h5, h6, h7⟩
  · cases h1
  · cases h1
    refine .inr ⟨g, c, cur.setIfInBounds j u, rfl, h2, blk_set h3 j u, h4, h5, by simp [h6], ?_⟩
    rw [Array.toList_setIfInBounds, ← h7, List.take_set]
/-- The first `i` commands are turned. -/
def OutI (w0 wr : World) (b base : Nat) (A : Option Addr) (n c : Nat) (cs : List Cmd) (i : Nat) : Prop :=
  ∃ mid hi xs1 xs2, wr.ownsRow w0.heap.size 69 2 (.slice A n c) n (xs1 ++ xs2) ∧ cmdsO wr (Value.slice A n c).ownBlock base mid xs1 ((cs.take i).map (shiftC b)) ∧ cmdsO wr (Value.slice A n c).ownBlock mid hi xs2 (cs.drop i) ∧
    hi ≤ wr.heap.size ∧ w0.heap.size ≤ base ∧ Chg [] w0 wr
/-- .. and the first `k` words of the next one, and its place. -/
def Mid (w0 wr : World) (b base : Nat) (A : Option Addr) (n c : Nat) (cs : List Cmd) (i : Nat) (cm : Cmd) (Aw : Option Addr) (cw k : Nat) : Prop :=
  ∃ lo mid hi xs1 xs2 ys, wr.ownsRow w0.heap.size 69 2 (.slice A n c) n (xs1 ++ [.int .i64 ((cm.at_ + b : Nat) : Int), .slice Aw cm.words.length cw] ++ xs2) ∧ cmdsO wr (Value.slice A n c).ownBlock base lo xs1 ((cs.take i).map (shiftC b)) ∧
    cmdsO wr (Value.slice A n c).ownBlock mid hi xs2 (cs.drop (i + 1)) ∧ lo ≤ mid ∧ wr.ownsRow lo 38 3 (.slice Aw cm.words.length cw) cm.words.length ys ∧
    (∀ q, (Value.slice Aw cm.words.length cw).ownBlock = some q → q < mid ∧ (Value.slice A n c).ownBlock ≠ some q) ∧
    wordsC wr (fun q => lo ≤ q ∧ q < mid ∧ (Value.slice A n c).ownBlock ≠ some q ∧ (Value.slice Aw cm.words.length cw).ownBlock ≠ some q) ys ((cm.words.take k).map (shiftW b) ++ cm.words.drop k) ∧
    hi ≤ wr.heap.size ∧ w0.heap.size ≤ base ∧ Chg [] w0 wr
theorem OutI.start {w0 wr : World} {base : Nat} {A : Option Addr} {n c : Nat} {cs : List Cmd} {xs : List Value} (b : Nat) (hO : wr.ownsRow w0.heap.size 69 2 (.slice A n c) n xs) (hX : CmdsAt wr base (Value.slice A n c).ownBlock xs cs) (hb : w0.heap.size ≤ base) (hC : Chg [] w0 wr) :
    OutI w0 wr b base A n c cs 0 := by
  obtain ⟨hi, h1, h2⟩ := hX
  exact ⟨base, hi, [], xs, hO, ⟨rfl, Nat.le_refl _⟩, h2, h1, hb, hC⟩
theorem drop_get {α : Type} {l : List α} {i : Nat} {a : α} (h : l[i]? = some a) : l.drop i = a :: l.drop (i + 1) := by
  obtain ⟨hl, rfl⟩ := List.getElem?_eq_some_iff.1 h
  exact List.drop_eq_getElem_cons hl
theorem take_get {α : Type} {l : List α} {i : Nat} {a : α} (h : l[i]? = some a) : l.take (i + 1) = l.take i ++ [a] := by rw [List.take_add_one, h]; rfl
theorem OutI.open_ {w0 wr : World} {b base : Nat} {A : Option Addr} {n c : Nat} {cs : List Cmd} {i : Nat} {cm : Cmd} (h : OutI w0 wr b base A n c cs i) (hi : cs[i]? = some cm) :
    ∃ gl Aw cw, A = some ⟨gl, 0, none⟩ ∧ wr.cell? ⟨gl, i * 2, none⟩ = some (.int .i64 cm.at_) ∧ wr.cell? ⟨gl, i * 2 + 1, none⟩ = some (.slice Aw cm.words.length cw) ∧ wr.frozen? ⟨gl, i * 2, none⟩ = false ∧
      Mid w0 (wr.setCell ⟨gl, i * 2, none⟩ (.int .i64 ((cm.at_ + b : Nat) : Int))) b base A n c cs i cm Aw cw 0 := by
  obtain ⟨mid, hh, xs1, xs2, h1, h2, h3, h4, h5, h6⟩ := h
  rw [drop_get hi] at h3
  obtain ⟨m, p, t, h7, rfl, h8, h9⟩ := h3
  obtain ⟨Aw, cw, ys, rfl, k1, k2, k3⟩ := h8
  have hil := (List.getElem?_eq_some_iff.1 hi).1
  have l1 : xs1.length = i * 2 := by rw [h2.len, List.length_map, List.length_take]; omega
  have hn0 : 0 < n := by have := h1.1; simp at this; omega
  obtain ⟨gl, rfl⟩ := own_some h1 hn0
  have c0 := own_cell h1 (j := i * 2) (u := .int .i64 cm.at_) (by rw [List.getElem?_append_right (by omega), l1]; simp)
  have c1 := own_cell h1 (j := i * 2 + 1) (u := .slice Aw cm.words.length cw) (by rw [List.getElem?_append_right (by omega), l1]; simp)
  have hlow : w0.heap.size ≤ gl := (h1.lt gl rfl).1
  have hS := (Chg.refl [gl] wr).setCell (p := ⟨gl, i * 2, none⟩) (.inl (by simp)) (.int .i64 ((cm.at_ + b : Nat) : Int))
  have hne : ∀ q, (Value.slice (some ⟨gl, 0, none⟩) n c).ownBlock ≠ some q → q ∉ [gl] := fun q hq hm => by simp at hm; subst hm; exact hq rfl
  refine ⟨gl, Aw, cw, rfl, c0.1, c1.1, c0.2, mid, m, hh, xs1, t, ys, ?_, h2.chg hS (fun q _ _ hq => hne q hq), h9.chg hS (fun q _ _ hq => hne q hq), h7, own_chg k1 hS (fun q hq => hne q (k2 q hq).2), k2,
    wordsC.chg hS (fun q hq _ => hne q hq.2.2.1) (by simpa using k3), by simpa using h4, h5, h6.setCell (.inr hlow) _⟩
  have := own_put h1 (i * 2) (.int .i64 ((cm.at_ + b : Nat) : Int))
  rw [List.set_append_right _ _ (by omega), l1] at this
  simpa using this
theorem Mid.cell {w0 wr : World} {b base : Nat} {A : Option Addr} {n c : Nat} {cs : List Cmd} {i : Nat} {cm : Cmd} {Aw : Option Addr} {cw k : Nat} (h : Mid w0 wr b base A n c cs i cm Aw cw k) (hi : cs[i]? = some cm) :
    ∃ gl, A = some ⟨gl, 0, none⟩ ∧ wr.cell? ⟨gl, i * 2 + 1, none⟩ = some (.slice Aw cm.words.length cw) := by
  obtain ⟨lo, mid, hh, xs1, xs2, ys, h1, h2, -⟩ := h
  have hil := (List.getElem?_eq_some_iff.1 hi).1
  have l1 : xs1.length = i * 2 := by rw [h2.len, List.length_map, List.length_take]; omega
  have hn0 : 0 < n := by have := h1.1; simp at this; omega
  obtain ⟨gl, rfl⟩ := own_some h1 hn0
  exact ⟨gl, rfl, (own_cell h1 (j := i * 2 + 1) (by rw [List.append_assoc, List.getElem?_append_right (by omega), l1]; simp)).1⟩
theorem Mid.word {w0 wr : World} {b base : Nat} {A : Option Addr} {n c : Nat} {cs : List Cmd} {i : Nat} {cm : Cmd} {Aw : Option Addr} {cw k : Nat} {wd : Word} (h : Mid w0 wr b base A n c cs i cm Aw cw k) (hk : cm.words[k]? = some wd) :
    ∃ g, Aw = some ⟨g, 0, none⟩ ∧ wr.cell? ⟨g, k * 3, none⟩ = some (.int .i64 wd.at_) ∧ wr.frozen? ⟨g, k * 3, none⟩ = false ∧
      Mid w0 (wr.setCell ⟨g, k * 3, none⟩ (.int .i64 ((wd.at_ + b : Nat) : Int))) b base A n c cs i cm Aw cw (k + 1) := by
  obtain ⟨lo, mid, hh, xs1, xs2, ys, h1, h2, h3, h4, h5, h6, h7, h8, h9, h10⟩ := h
  have hkl := (List.getElem?_eq_some_iff.1 hk).1
  obtain ⟨g, rfl⟩ := own_some h5 (by omega)
  have hwk : ((cm.words.take k).map (shiftW b) ++ cm.words.drop k)[k]? = some wd := by
    rw [List.getElem?_append_right (by simp; omega), List.length_map, List.length_take, Nat.min_eq_left (by omega), Nat.sub_self, drop_get hk]; rfl
  obtain ⟨A', c', e1, -⟩ := wordsC.get h7 hwk
  have c0 := own_cell h5 e1
  have hlo : lo ≤ g := (h5.lt g rfl).1
  have hmid := (h6 g rfl).1
  have hS := (Chg.refl [g] wr).setCell (p := ⟨g, k * 3, none⟩) (.inl (by simp)) (.int .i64 ((wd.at_ + b : Nat) : Int))
  have l2 := h2.le
  refine ⟨g, rfl, c0.1, c0.2, lo, mid, hh, xs1, xs2, _, own_chg h1 hS (fun q hq hm => by simp at hm; subst hm; exact (h6 q rfl).2 hq), h2.chg hS (fun q _ hq _ hm => by simp at hm; omega), h3.chg hS (fun q hq _ _ hm => by simp at hm; omega), h4,
    own_put h5 (k * 3) (.int .i64 ((wd.at_ + b : Nat) : Int)), h6, ?_, by simpa using h8, h9, h10.setCell (.inr (show w0.heap.size ≤ g by omega)) _⟩
  have ht := wordsC.turn b (wordsC.chg hS (fun q hq _ hm => by simp at hm; subst hm; exact hq.2.2.2 rfl) h7) hwk
  have e : ((cm.words.take k).map (shiftW b) ++ cm.words.drop k).set k (shiftW b wd) = (cm.words.take (k + 1)).map (shiftW b) ++ cm.words.drop (k + 1) := by
    rw [List.set_append_right _ _ (by simp; omega), List.length_map, List.length_take, Nat.min_eq_left (by omega), Nat.sub_self, drop_get hk, take_get hk, List.map_append]
    simp
  rw [e] at ht
  exact ht
theorem Mid.close {w0 wr : World} {b base : Nat} {A : Option Addr} {n c : Nat} {cs : List Cmd} {i : Nat} {cm : Cmd} {Aw : Option Addr} {cw : Nat} (h : Mid w0 wr b base A n c cs i cm Aw cw cm.words.length) (hi : cs[i]? = some cm) : OutI w0 wr b base A n c cs (i + 1) := by
  obtain ⟨lo, mid, hh, xs1, xs2, ys, h1, h2, h3, h4, h5, h6, h7, h8, h9, h10⟩ := h
  rw [List.take_length, List.drop_length, List.append_nil] at h7
  refine ⟨mid, hh, xs1 ++ [.int .i64 ((cm.at_ + b : Nat) : Int), .slice Aw cm.words.length cw], xs2, h1, ?_, h3, h8, h9, h10⟩
  rw [take_get hi, List.map_append]
  refine cmdsO.append (cmdsO.one (cm := shiftC b cm) ⟨Aw, cw, ys, ?_, ?_, ?_, ?_⟩ h4) h2
  · simp [shiftC]
  · simpa [shiftC] using h5
  · simpa [shiftC] using h6
  · simpa [shiftC] using h7
theorem OutI.done {w0 wr : World} {b base : Nat} {A : Option Addr} {n c : Nat} {cs : List Cmd} (h : OutI w0 wr b base A n c cs cs.length) (hn : n = cs.length) : ∃ xs, Sl wr 2 (.slice A n c) n xs ∧ Blk wr (fun q => w0.heap.size ≤ q) (.slice A n c) n ∧ cmdsC wr (fun q => base ≤ q ∧ (Value.slice A n c).ownBlock ≠ some q) xs (cs.map (shiftC b)) ∧ Chg [] w0 wr := by
  obtain ⟨mid, hi, xs1, xs2, h1, h2, h3, h4, h5, h6⟩ := h
  rw [List.take_length] at h2
  rw [List.drop_length] at h3
  obtain ⟨rfl, -⟩ := h3
  rw [List.append_nil] at h1
  exact ⟨xs1, own_sl h1, fun q _ hq => h1.lt q hq, h2.plain, h6⟩
end Pl
end Go.Proofs.Ytakcolililbkjaa
