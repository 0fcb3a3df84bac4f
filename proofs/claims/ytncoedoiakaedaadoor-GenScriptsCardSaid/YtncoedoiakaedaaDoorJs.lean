/- What gen.Script holds in memory while it goes through the turns. Conditions: as it states. -/
import Derived.Test.YtncoedoiakaedaaDoorGenK
import Derived.Test.YtncoedoiakaedaaDoorChk
import Derived.Test.YtncoedoiakaedaaDoorItoa
set_option linter.unusedVariables false
set_option linter.unusedSimpArgs false
namespace Go.Proofs.YtncoedoiakaedaaDoor
open Go.RowKit Go.Shelf Tcl Tail Turn Tl Ev_ Ar
namespace Gn
theorem all_any (w : World) (A : Option Addr) (n c : Nat) :
    Calls Tryd.prog 23 #[.slice A n c] w fun e w' => e = .returned (.func (.func 37) #[] #[.pointer (some ⟨w.heap.size, 0, none⟩)]) ∧ w' = w.alloc (.cells #[.slice A n c] 22 (0, 0)) := by
  go_enter Tryd.func23, Tryd.ntmps23
  go_wp2_with fail
  go_ret
  exact ⟨rfl, rfl⟩
/-- What lies in `S` lies as it lay. -/
def Keeps (S : Nat → Prop) (w w' : World) : Prop := ChgP (fun k => ¬ S k) w w'
theorem Keeps.at {S : Nat → Prop} {w w' : World} (h : Keeps S w w') {k : Nat} (hk : k < w.heap.size) (hS : S k) : w'.heap[k]? = w.heap[k]? := h.block k hk (by simpa using hS)
theorem Keeps.trans {S : Nat → Prop} {a b c : World} (h : Keeps S a b) (k : Keeps S b c) : Keeps S a c :=
  ⟨k.os.trans h.os, k.tape.trans h.tape, k.output.trans h.output, Nat.le_trans h.size k.size, fun i hi hn => (k.block i (Nat.lt_of_lt_of_le hi h.size) hn).trans (h.block i hi hn)⟩
theorem Keeps.mono {S S' : Nat → Prop} {a b : World} (h : Keeps S a b) (hs : ∀ k, S' k → S k) : Keeps S' a b :=
  ⟨h.os, h.tape, h.output, h.size, fun k hk hn => h.block k hk (fun h2 => hn (fun h3 => h2 (hs k h3)))⟩
theorem Keeps.of {L : List Nat} {S : Nat → Prop} {a b : World} (h : Chg L a b) (hL : ∀ k ∈ L, ¬ S k) : Keeps S a b := ChgP.of h (fun k hk => .inl (hL k hk))
theorem Keeps.refl (S : Nat → Prop) (w : World) : Keeps S w w := Keeps.of (Chg.refl [] w) (by simp)
theorem own_mv {w w' : World} {base : Nat} {e : TypeId} {size n : Nat} {v : Value} {xs : List Value} (h : w.ownsRow base e size v n xs) (hm : ∀ k, v.ownBlock = some k → w'.heap[k]? = w.heap[k]?) : w'.ownsRow base e size v n xs := by
  refine ⟨h.1, ?_⟩
  rcases h.2 with h2 | ⟨g, cap, cur, rfl, hb, hg, rest⟩
  · exact .inl h2
  · exact .inr ⟨g, cap, cur, rfl, hb, (hm g rfl).trans hg, rest⟩
/-- The state: the two boxed arguments at `s`, the builder and the number at `g`, the loop's two blocks; what must not be touched: `av`. -/
structure JS (w : World) (s g D l base : Nat) (tv : Array Value) (m : Nat) (ob : Obj) (av : Nat → Prop) (txt : List UInt8) (lg : Nat) (W : World) : Prop where
  ord : w.heap.size ≤ s ∧ s + 1 < g ∧ g + 1 < D ∧ D < l ∧ l < base
  C : Chg [] w W
  t : W.heap[s]? = some (.cells tv 26 (0, 0))
  m : W.heap[s + 1]? = some (.cells #[.int .i64 m] 3 (0, 0))
  bd : ∃ p v, Bl.Pt g p ∧ Bl.Bd W g p v txt ∧ ∀ k, v.ownBlock = some k → ¬ av k
  lg : W.heap[g + 1]? = some (.cells #[.int .i64 lg] 3 (0, 0))
  D : W.heap[D]? = some (.deferred (some []))
  L : W.heap[l]? = some ob
  nc : ∀ cs f, ob ≠ .cells cs 5 f
  bs : base ≤ W.heap.size
  lo : ∀ k, av k → base ≤ k
  hi : ∀ k, av k → k < W.heap.size
section
variable {w : World} {s g D l base : Nat} {tv : Array Value} {m : Nat} {ob : Obj} {av : Nat → Prop} {txt : List UInt8} {lg : Nat} {W : World}
theorem JS.row {p v : Value} (h : JS w s g D l base tv m ob av txt lg W) (hb : Bl.Bd W g p v txt) (k : Nat) (hk : v.ownBlock = some k) : g + 1 < k ∧ k ≠ D ∧ k ≠ l ∧ k < W.heap.size := by
  have h1 := Bl.Bd.lt hb k hk
  obtain ⟨cs, hc⟩ := own_typ hb.O k hk
  refine ⟨?_, ?_, ?_, h1.2⟩
  · rcases Nat.lt_or_ge (g + 1) k with h2 | h2
    · exact h2
    · have : k = g + 1 := by omega
      subst this
      have := h.lg
      rw [hc] at this
      injection this with this
      injection this with _ this
      exact absurd this (by decide)
  · rintro rfl
    have := h.D
    rw [hc] at this
    cases this
  · rintro rfl
    have := h.L
    rw [hc] at this
    exact h.nc _ _ (by injection this with this; exact this.symm)
/-- Another's steps. -/
theorem JS.abide {av' : Nat → Prop} {B : World} (h : JS w s g D l base tv m ob av txt lg W) (hC : ChgP av W B) (h1 : ∀ k, av' k → av k ∨ W.heap.size ≤ k) (h2 : ∀ k, av' k → k < B.heap.size) : JS w s g D l base tv m ob av' txt lg B := by
  obtain ⟨o1, o2, o3, o4, o5⟩ := h.ord
  have key : ∀ {k : Nat} {o : Obj}, k < base → W.heap[k]? = some o → B.heap[k]? = some o := fun {k o} hk ho => by
    rw [hC.block k (lt_heap ho) (fun hm => by have := h.lo k hm; omega)]; exact ho
  have hlt : l < W.heap.size := lt_heap h.L
  obtain ⟨p, v, hp, hb, hv⟩ := h.bd
  refine ⟨h.ord, ⟨hC.os.trans h.C.os, hC.tape.trans h.C.tape, hC.output.trans h.C.output, Nat.le_trans h.C.size hC.size, fun k hk hn => ?_⟩, key (by omega) h.t, key (by omega) h.m, ⟨p, v, hp, ⟨key (by omega) hb.H, own_mv hb.O (fun k hk => hC.block k (h.row hb k hk).2.2.2 (hv k hk))⟩, fun k hk hm => ?_⟩, key (by omega) h.lg, key (by omega) h.D, key (by omega) h.L, h.nc, Nat.le_trans h.bs hC.size, fun k hk => ?_, h2⟩
  · have := h.C.size
    exact (hC.block k (by omega) (fun hm => by have := h.lo k hm; omega)).trans (h.C.block k hk hn)
  · rcases h1 k hm with h3 | h3
    · exact hv k hk h3
    · have := (h.row hb k hk).2.2.2; omega
  · rcases h1 k hk with h3 | h3
    · exact h.lo k h3
    · exact Nat.le_trans h.bs h3
theorem JS.chg {B : World} (h : JS w s g D l base tv m ob av txt lg W) (hC : Chg [] W B) : JS w s g D l base tv m ob av txt lg B :=
  h.abide (ChgP.of hC (by simp)) (fun _ h => .inl h) (fun k hk => Nat.lt_of_lt_of_le (h.hi k hk) hC.size)
theorem JS.sub {av' : Nat → Prop} (h : JS w s g D l base tv m ob av txt lg W) (hs : ∀ k, av' k → av k) : JS w s g D l base tv m ob av' txt lg W := by
  obtain ⟨p, v, hp, hb, hv⟩ := h.bd
  exact ⟨h.ord, h.C, h.t, h.m, ⟨p, v, hp, hb, fun k hk hm => hv k hk (hs k hm)⟩, h.lg, h.D, h.L, h.nc, h.bs, fun k hk => h.lo k (hs k hk), fun k hk => h.hi k (hs k hk)⟩
/-- A store into the number. -/
theorem JS.set (h : JS w s g D l base tv m ob av txt lg W) (lg' : Nat) : JS w s g D l base tv m ob av txt lg' (W.setCell ⟨g + 1, 0, none⟩ (.int .i64 lg')) ∧ Keeps av W (W.setCell ⟨g + 1, 0, none⟩ (.int .i64 lg')) := by
  obtain ⟨o1, o2, o3, o4, o5⟩ := h.ord
  have hSt : Chg [g + 1] W (W.setCell ⟨g + 1, 0, none⟩ (.int .i64 (lg' : Int))) := (Chg.refl [g + 1] W).setCell (.inl (by simp)) _
  obtain ⟨p, v, hp, hb, hv⟩ := h.bd
  refine ⟨⟨h.ord, h.C.then hSt (fun k hk => .inr (by simp at hk; omega)), hSt.heap h.t (by simp; omega), hSt.heap h.m (by simp; omega), ⟨p, v, hp, hb.chg hSt (by simp) (fun k hk hm => by have := h.row hb k hk; simp at hm; omega), hv⟩, by simpa using blk_set h.lg 0 (.int .i64 (lg' : Int)), hSt.heap h.D (by simp; omega), hSt.heap h.L (by simp; omega), h.nc, Nat.le_trans h.bs hSt.size, h.lo, fun k hk => Nat.lt_of_lt_of_le (h.hi k hk) hSt.size⟩, Keeps.of hSt (fun k hk hm => by have := h.lo k hm; simp at hk; omega)⟩
/-- The loop's record turns. -/
theorem JS.put (h : JS w s g D l base tv m ob av txt lg W) (ob' : Obj) (hn : ∀ cs f, ob' ≠ .cells cs 5 f) : JS w s g D l base tv m ob' av txt lg (W.putObj l ob') ∧ Keeps av W (W.putObj l ob') := by
  obtain ⟨o1, o2, o3, o4, o5⟩ := h.ord
  have hlt : l < W.heap.size := lt_heap h.L
  have hsz : (W.putObj l ob').heap.size = W.heap.size := by simp [World.putObj]
  have hSt : Chg [l] W (W.putObj l ob') := ⟨rfl, rfl, rfl, by rw [hsz]; exact Nat.le_refl _, fun k hk hn => World.putObj_heap_other (by intro e; exact hn (by simp [e]))⟩
  obtain ⟨p, v, hp, hb, hv⟩ := h.bd
  refine ⟨⟨h.ord, h.C.then hSt (fun k hk => .inr (by simp at hk; omega)), hSt.heap h.t (by simp; omega), hSt.heap h.m (by simp; omega), ⟨p, v, hp, hb.chg hSt (by simp; omega) (fun k hk hm => by have := h.row hb k hk; simp at hm; omega), hv⟩, hSt.heap h.lg (by simp; omega), hSt.heap h.D (by simp; omega), World.putObj_heap_same hlt, hn, Nat.le_trans h.bs hSt.size, h.lo, fun k hk => Nat.lt_of_lt_of_le (h.hi k hk) hSt.size⟩, Keeps.of hSt (fun k hk hm => by have := h.lo k hm; simp at hk; omega)⟩
/-- A write into the builder. -/
theorem JS.write (h : JS w s g D l base tv m ob av txt lg W) (x : List UInt8) (hlen : txt.length + x.length ≤ 70368744177664) :
    Calls Tryd.prog 25 #[.pointer (some ⟨g, 0, none⟩), .string (bstr x)] W fun e B => (∃ n : Int, e = .returned (.tuple #[.int .i64 n, .nilIface])) ∧ JS w s g D l base tv m ob av (txt ++ x) lg B ∧ Keeps av W B := by
  obtain ⟨o1, o2, o3, o4, o5⟩ := h.ord
  obtain ⟨p, v, hp, hb, hv⟩ := h.bd
  refine (Bl.writeString_bd W g p v txt x hp hb hlen).mono ?_
  rintro e B ⟨he, v', hB, hat, hC⟩
  have hne : ∀ {k : Nat}, k < base → k ≠ g → (k ≤ g + 1 ∨ k = D ∨ k = l) → k ∉ (g :: v.ownBlock.toList) := fun {k} _ h1 h2 hm => by
    rcases List.mem_cons.1 hm with h3 | h3
    · exact h1 h3
    · have := h.row hb k (by simpa using h3); omega
  refine ⟨he, ⟨h.ord, h.C.then hC (fun k hk => .inr ?_), hC.heap h.t (hne (by omega) (by omega) (by omega)), hC.heap h.m (hne (by omega) (by omega) (by omega)), ⟨_, v', .inr rfl, hB, fun k hk hm => ?_⟩, hC.heap h.lg (hne (by omega) (by omega) (by omega)), hC.heap h.D (hne (by omega) (by omega) (by omega)), hC.heap h.L (hne (by omega) (by omega) (by omega)), h.nc, Nat.le_trans h.bs hC.size, h.lo, fun k hk => Nat.lt_of_lt_of_le (h.hi k hk) hC.size⟩, Keeps.of hC (fun k hk hm => ?_)⟩
  · rcases List.mem_cons.1 hk with h3 | h3
    · omega
    · have := h.row hb k (by simpa using h3); omega
  · rcases hat with hat | hat
    · exact hv k (by rw [← hat]; exact hk) hm
    · have := hat k hk; have := h.hi k hm; omega
  · rcases List.mem_cons.1 hk with h3 | h3
    · have := h.lo k hm; omega
    · exact hv k (by simpa using h3) hm
end
end Gn
end Go.Proofs.YtncoedoiakaedaaDoor
