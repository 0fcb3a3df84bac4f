/- A matcher in memory: its branches, its window, what its branches look with. No condition. -/
import Derived.Test.YtojgdmpnbgikeaaLooks
import Derived.Test.YtojgdmpnbgikeaaWinPut
import Derived.Laws.Rows
set_option linter.unusedVariables false
set_option linter.unusedSimpArgs false
namespace Go.Proofs.Ytojgdmpnbgikeaa
open Go.RowKit PMatchFeeds YtojgdmpnbgikeaaW.PrintWords
namespace Mt
open Kmp Glob
def brCells (l : List Br) : List Value := l.flatMap fun x => [.int .i64 x.kind, .string (bs x.pat)]
theorem brCells_length (l : List Br) : (brCells l).length = l.length * 2 := by
  induction l with
  | nil => rfl
  | cons x l ih =>
    have e : brCells (x :: l) = [.int .i64 x.kind, .string (bs x.pat)] ++ brCells l := rfl
    rw [e, List.length_append, ih]; simp; omega
theorem br_get (l : List Br) : ∀ (k : Nat) (x : Br), l[k]? = some x → (brCells l)[k * 2]? = some (.int .i64 x.kind) ∧ (brCells l)[k * 2 + 1]? = some (.string (bs x.pat)) := by
  induction l with
  | nil => intro k p h; simp at h
  | cons x l ih =>
    intro k p h
    cases k with
    | zero => simp at h; subst h; exact ⟨rfl, rfl⟩
    | succ k =>
      have := ih k p (by simpa using h)
      have e : brCells (x :: l) = .int .i64 x.kind :: .string (bs x.pat) :: brCells l := rfl
      rw [e, show (k + 1) * 2 = k * 2 + 1 + 1 by omega]
      exact this
theorem br_one (l : List Br) : ∀ u ∈ brCells l, u.oneCell' = true := by
  intro u hu
  simp [brCells] at hu
  obtain ⟨x, _, rfl | rfl⟩ := hu <;> rfl
/-- What the branches look with: each its own blocks; the i-th saw `Tf i`. -/
def LooksAt (w : World) (most : Nat) (l : List Br) (us : List Value) (I : List (Nat × Nat)) (Tf : Nat → List UInt8) : Prop :=
  us.length = l.length ∧ I.length = l.length ∧ (∀ (i j : Nat) (p q : Nat × Nat), i < j → I[i]? = some p → I[j]? = some q → p.2 ≤ q.1) ∧
    ∀ (i : Nat) (x : Br) (u : Value) (p : Nat × Nat), l[i]? = some x → us[i]? = some u → I[i]? = some p → p.2 ≤ w.heap.size ∧ LookAt w p.1 p.2 most x u (Tf i)
theorem LooksAt.chg {S : List Nat} {w w' : World} {most : Nat} {l : List Br} {us : List Value} {I : List (Nat × Nat)} {Tf : Nat → List UInt8} (h : LooksAt w most l us I Tf) (hc : Chg S w w') (hS : ∀ k ∈ S, ∀ p ∈ I, k < p.1 ∨ p.2 ≤ k) : LooksAt w' most l us I Tf := by
  obtain ⟨h1, h2, h3, h4⟩ := h
  refine ⟨h1, h2, h3, fun i x u p a b c => ?_⟩
  obtain ⟨h5, h6⟩ := h4 i x u p a b c
  exact ⟨Nat.le_trans h5 hc.size, h6.chg hc (fun k hk => hS k hk p (List.mem_of_getElem? c))⟩
/-- One of them sees a byte more. -/
theorem LooksAt.step {S : List Nat} {w w' : World} {most k : Nat} {l : List Br} {us : List Value} {I : List (Nat × Nat)} {Tf Tf' : Nat → List UInt8} {x : Br} {u : Value} {p : Nat × Nat} (h : LooksAt w most l us I Tf) (hx : l[k]? = some x) (hu : us[k]? = some u) (hp : I[k]? = some p)
    (hc : Chg S w w') (hS : ∀ q ∈ S, p.1 ≤ q ∧ q < p.2) (hl : LookAt w' p.1 p.2 most x u (Tf' k)) (hT : ∀ j, j ≠ k → Tf' j = Tf j) : LooksAt w' most l us I Tf' := by
  obtain ⟨h1, h2, h3, h4⟩ := h
  refine ⟨h1, h2, h3, fun i x' u' p' a b c => ?_⟩
  by_cases hik : i = k
  · subst hik
    rw [hx] at a; cases a
    rw [hu] at b; cases b
    rw [hp] at c; cases c
    exact ⟨Nat.le_trans (h4 i x u p hx hu hp).1 hc.size, hl⟩
  · obtain ⟨h5, h6⟩ := h4 i x' u' p' a b c
    rw [hT i hik]
    refine ⟨Nat.le_trans h5 hc.size, h6.chg hc (fun q hq => ?_)⟩
    have := hS q hq
    rcases Nat.lt_or_ge i k with hlt | hlt
    · have := h3 i k p' p hlt c hp; omega
    · have := h3 k i p p' (by omega) hp c; omega
/-- The blocks that a matcher holds. -/
def Held (g gw : Nat) (r : Option Nat) (vb vl : Value) (I : List (Nat × Nat)) (k : Nat) : Prop :=
  k = g ∨ k = gw ∨ r = some k ∨ vb.ownBlock = some k ∨ vl.ownBlock = some k ∨ ∃ p ∈ I, p.1 ≤ k ∧ k < p.2
/-- A matcher at block `g` to which the bytes T came. -/
def MS (w : World) (F : Nat → Prop) (g : Nat) (l : List Br) (most : Nat) (T : List UInt8) : Prop :=
  ∃ (Ab : Option Addr) (cb : Nat) (Al : Option Addr) (cl gw : Nat) (r : Option Nat) (h : Nat) (us : List Value) (I : List (Nat × Nat)),
    w.heap[g]? = some (.cells #[.slice Ab l.length cb, .int .i64 most, .slice Al l.length cl, .pointer (some ⟨gw, 0, none⟩), .bool (l.any fun x => x.kind == 1)] 56 (0, 0)) ∧
    w.ownsRow 0 45 2 (.slice Ab l.length cb) l.length (brCells l) ∧ Win w gw r most T.length h (lastN most (ns T)) ∧ w.ownsRow 0 68 1 (.slice Al l.length cl) l.length us ∧ LooksAt w most l us I (fun _ => T) ∧
    (∀ k, Held g gw r (.slice Ab l.length cb) (.slice Al l.length cl) I k → F k) ∧ (∀ k, F k → k < w.heap.size) ∧
    (∀ p ∈ I, ∀ k, p.1 ≤ k → k < p.2 → k ≠ g ∧ k ≠ gw ∧ r ≠ some k ∧ (Value.slice Ab l.length cb).ownBlock ≠ some k ∧ (Value.slice Al l.length cl).ownBlock ≠ some k) ∧ l.length ≤ 64
theorem MS.chg {S : List Nat} {w w' : World} {F : Nat → Prop} {g : Nat} {l : List Br} {most : Nat} {T : List UInt8} (H : MS w F g l most T) (hc : Chg S w w') (hS : ∀ k ∈ S, ¬ F k) : MS w' F g l most T := by
  obtain ⟨Ab, cb, Al, cl, gw, r, h, us, I, h1, h2, h3, h4, h5, h6, h7, h8, h9⟩ := H
  have nF : ∀ k, Held g gw r (.slice Ab l.length cb) (.slice Al l.length cl) I k → k ∉ S := fun k hk hm => hS k hm (h6 k hk)
  refine ⟨Ab, cb, Al, cl, gw, r, h, us, I, hc.heap h1 (nF g (.inl rfl)), own_chg h2 hc (fun k hk => nF k (.inr (.inr (.inr (.inl hk))))), h3.chg hc (nF gw (.inr (.inl rfl))) (fun k hk => nF k (.inr (.inr (.inl hk)))),
    own_chg h4 hc (fun k hk => nF k (.inr (.inr (.inr (.inr (.inl hk)))))), h5.chg hc (fun k hk p hp => ?_), h6, fun k hk => Nat.lt_of_lt_of_le (h7 k hk) hc.size, h8, h9⟩
  rcases Nat.lt_or_ge k p.1 with h10 | h10
  · exact .inl h10
  · rcases Nat.lt_or_ge k p.2 with h11 | h11
    · exact absurd hk (nF k (.inr (.inr (.inr (.inr (.inr ⟨p, hp, h10, h11⟩))))))
    · exact .inr h11
theorem own_types {w : World} {b b' : Nat} {e e' : TypeId} {z z' n n' : Nat} {v v' : Value} {xs xs' : List Value} (h : w.ownsRow b e z v n xs) (h' : w.ownsRow b' e' z' v' n' xs') (he : e ≠ e') : ∀ k, v.ownBlock = some k → v'.ownBlock ≠ some k := by
  intro k hk hk'
  rcases h.2 with ⟨rfl, _⟩ | ⟨g, cap, cur, rfl, _, hg, _⟩
  · simp [Value.ownBlock] at hk
  · rcases h'.2 with ⟨rfl, _⟩ | ⟨g', cap', cur', rfl, _, hg', _⟩
    · simp [Value.ownBlock] at hk'
    · simp [Value.ownBlock] at hk hk'
      subst hk hk'
      rw [hg] at hg'
      simp at hg'
      exact he hg'.2
theorem own_not' {w : World} {base : Nat} {e : TypeId} {size n : Nat} {v : Value} {xs : List Value} (h : w.ownsRow base e size v n xs) {k : Nat} {cs : Array Value} {t : TypeId} {f : Nat × Nat} (hk : w.heap[k]? = some (.cells cs t f)) (ht : t ≠ e) : v.ownBlock ≠ some k := by
  rcases h.2 with ⟨rfl, _⟩ | ⟨g, cap, cur, rfl, _, hg, _⟩
  · simp [Value.ownBlock]
  · simp only [Value.ownBlock]
    rintro e'
    cases e'
    rw [hk] at hg
    simp at hg
    exact ht hg.2.1
theorem sl_at {w : World} {A : Option Addr} {n c : Nat} {xs : List Value} (h : Sl w 1 (.slice A n c) n xs) {k : Nat} {u : Value} (hk : xs[k]? = some u) : ∃ ad, A = some ad ∧ w.cell? (ad.add k) = some u := by
  obtain ⟨A0, c0, e0, h0, h1, h2, h3, h4⟩ := h
  obtain ⟨rfl, rfl⟩ : A0 = A ∧ c0 = c := by simp at e0; exact ⟨e0.1.symm, e0.2.symm⟩
  obtain ⟨ad, rfl, hr⟩ := h4 (by have := (List.getElem?_eq_some_iff.1 hk).1; omega)
  exact ⟨ad, rfl, hr k u hk⟩
theorem br_at {w : World} {A : Option Addr} {n c : Nat} {l : List Br} (h : Sl w 2 (.slice A n c) n (brCells l)) {k : Nat} {x : Br} (hk : l[k]? = some x) :
    ∃ b o, A = some ⟨b, o, none⟩ ∧ w.cell? ⟨b, o + k * 2, none⟩ = some (.int .i64 x.kind) ∧ w.cell? ⟨b, o + k * 2 + 1, none⟩ = some (.string (bs x.pat)) := by
  obtain ⟨A0, c0, e0, h0, h1, h2, h3, h4⟩ := h
  obtain ⟨rfl, rfl⟩ : A0 = A ∧ c0 = c := by simp at e0; exact ⟨e0.1.symm, e0.2.symm⟩
  have hl := brCells_length l
  have hkl := (List.getElem?_eq_some_iff.1 hk).1
  obtain ⟨ad, rfl, hr⟩ := h4 (by omega)
  have hg := br_get l k x hk
  have hspot : ad.spot = none := by
    have := hr 0 _ (List.getElem?_eq_getElem (by omega))
    exact World.cell?_spot (a := ad) (by simpa [Addr.add] using this)
  obtain ⟨b, off, spot⟩ := ad
  simp only at hspot
  subst hspot
  refine ⟨b, off, rfl, ?_, ?_⟩
  · have := hr _ _ hg.1
    have ha : (⟨b, off, none⟩ : Addr).add (k * 2) = ⟨b, off + k * 2, none⟩ := by unfold Addr.add; split <;> simp_all
    rwa [ha] at this
  · have := hr _ _ hg.2
    have ha : (⟨b, off, none⟩ : Addr).add (k * 2 + 1) = ⟨b, off + k * 2 + 1, none⟩ := by unfold Addr.add; split <;> simp_all <;> omega
    rwa [ha] at this
theorem results_cell2 {P : Program} {fn : Func} {p u : Tmp} {ty : TypeId} (h : fn.results = #[.cell p ty, .tmp u]) (tmps : Array Value) (w : World) (g : Nat) (t : TypeId) (cs : Array Value) (fr : Nat × Nat) (d : TypeDesc) (b : Value)
    (hp : tmps.getD p undef = .pointer (some ⟨g, 0, none⟩)) (hg : w.heap[g]? = some (.cells cs t fr))
    (hu : P.underlying ty = some d) (hd : (match d with | .struct _ | .array _ _ => true | _ => false) = true) (hi : (P.info? ty).map (·.size) = some cs.size) (hb : tmps.getD u undef = b) :
    (results fn tmps).run P w = .ok (.tuple #[.agg cs, b]) w := by
  have hp' : tmps[p]?.getD undef = .pointer (some ⟨g, 0, none⟩) := by simpa using hp
  have hb' : tmps[u]?.getD undef = b := by simpa using hb
  simp [results, h, hp', hb', asAddr, run_loadVar_row w g t ty cs fr d hg hu hd hi]
end Mt
end Go.Proofs.Ytojgdmpnbgikeaa
