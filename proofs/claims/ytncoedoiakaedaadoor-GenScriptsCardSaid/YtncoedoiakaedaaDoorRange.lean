/- A range over a function whose body always goes on: the statement's law with the record's turns told as heap facts. Conditions: as it states. -/
import Derived.RangeFuncNested
import Derived.RangeFuncBound
import Derived.RangeFuncCalls
import Derived.RangeFuncLeaves
import Derived.Shelf.Abstract
import Derived.Shelf.RegionOpen
import Derived.WalkKit
import Derived.Test.YtncoedoiakaedaaDoorLib
set_option linter.unusedVariables false
set_option linter.unusedSimpArgs false
namespace Go.Proofs.YtncoedoiakaedaaDoor
open Go.RowKit Go.Shelf
namespace Gn
/-- How a round's body ends: off its end. -/
def endP (l : Nat) (ready busy : Obj) (R : Ending → World → Prop) : Exit → Act → World → Prop
  | .normal, _, w => w.heap[l]? = some busy ∧ R (.returned (.bool true)) (w.putObj l ready)
  | _, _, _ => False
theorem range_law {P : Program} {gop : Operand} {ps : Array Tmp} {assign body : Code} {Q : Exit → Act → World → Prop} {a : Act} {W6 : World} {nn gf : Nat} {lb : Array Value}
    (hg : a.eval gop = .func (.func gf) #[] lb) (eg : ∀ args w, (callFunc gf args).run P w = .ok (.enter gf args) w)
    (h : ∀ (l D : Nat) (ready busy done : Obj) (W7 : World), D = W6.heap.size → l = W6.heap.size + 1 → Chg [] W6 W7 → W7.heap.size = W6.heap.size + 2 → W7.heap[D]? = some (.deferred (some [])) → W7.heap[l]? = some ready →
      (∀ cs t f, ready ≠ .cells cs t f) → (∀ cs t f, busy ≠ .cells cs t f) → (∀ cs t f, done ≠ .cells cs t f) →
      (∀ (m : Nat) (args : Array Value) (W : World) (R : Ending → World → Prop), W.heap[l]? = some ready → args.size = ps.size →
        assign.wpIn (Fence.wide.inRound l) m P (Exit.then (fun a₁ w₁ => w₁.heap[l]? = some ready ∧ body.wpIn (Fence.wide.inRound l) m P (endP l ready busy R) a₁ (w₁.putObj l busy)) (fun _ _ _ => False)) { tmps := (ps.zip args).foldl (fun t (p, v) => t.setIfInBounds p v) a.tmps, defers := [] } W →
        YieldAt Fence.wide m P l args W R) →
      CallsIn Fence.wide (nn - 1) P gf (#[.func (.yield l) #[] #[]] ++ lb) W7 (fun e W' => (∃ v, e = .returned v) ∧ W'.heap[l]? = some ready ∧ Q .normal { a with defers := { target := .collected D, args := #[] } :: a.defers } (W'.putObj l done))) :
    (Code.rangeFunc gop ps assign body).wpIn Fence.wide nn P Q a W6 := by
  refine wpIn_rangeFunc ?_
  intro fn hfn
  rw [show Fence.wide.round = none from rfl]
  obtain ⟨rec, hrec⟩ : ∃ rec : LoopState → Loop, rec = fun st => { state := st, pending := none, fn := fn, tmps := a.tmps, params := ps, assign := assign, body := body, defers := W6.heap.size } := ⟨_, rfl⟩
  obtain ⟨W7, hW7⟩ : ∃ W7, (W6.alloc (.deferred (some []))).alloc (.loop (rec .ready)) = W7 := ⟨_, rfl⟩
  have hL7 : W7.heap[W6.heap.size + 1]? = some (.loop (rec .ready)) := by
    rw [← hW7]; have := World.alloc_heap_new (W6.alloc (.deferred (some []))) (.loop (rec .ready)); rwa [World.size_alloc] at this
  have hD7 : W7.heap[W6.heap.size]? = some (.deferred (some [])) := by
    rw [← hW7]; exact (Below.heap_alloc _ _ _ (by simp)).trans (World.alloc_heap_new W6 _)
  have hC7 : Chg [] W6 W7 := by rw [← hW7]; exact ((Chg.refl [] W6).alloc _).alloc _
  have hz7 : W7.heap.size = W6.heap.size + 2 := by rw [← hW7, World.size_alloc, World.size_alloc]
  refine ⟨W6.heap.size + 1, [{ target := .collected W6.heap.size, args := #[] }], W7, { target := .fn (.func gf) lb, args := #[.func (.yield (W6.heap.size + 1)) #[] #[]] }, W7, gf,
    #[.func (.yield (W6.heap.size + 1)) #[] #[]] ++ lb, W7, ?_, ?_, ?_, ?_, fun hd => (by cases hd), ?_⟩
  · rw [← hW7, hrec]; exact run_enterLoop_outer _ _ _ _ _
  · simp only [resolve, hg]
    simp [go_sem]
  · intro f' hf'; trivial
  · simp [invoke, go_sem, eg]
  · refine (h (W6.heap.size + 1) W6.heap.size (.loop (rec .ready)) (.loop (rec .busy)) (.loop (rec .exhausted)) W7 rfl rfl hC7 hz7 hD7 hL7 (by intro cs t f e; cases e) (by intro cs t f e; cases e) (by intro cs t f e; cases e) ?_).mono ?_
    · intro m args W R hl hs hw
      have hy := run_yield (P := P) (args := args) hl (by rw [hrec]; exact hs)
      rw [hrec] at hy
      refine ⟨fn, _, assign, body, hy, roundIn_of_wpIn hfn (wpIn_mono hw ?_)⟩
      rintro e a₁ w₁ hp
      cases e with
      | normal =>
        obtain ⟨hl1, hb⟩ := hp
        refine ⟨_, run_beginRound hl1 (by rw [hrec]), ?_⟩
        have e1 : ({ rec .ready with state := .busy } : Loop) = rec .busy := by rw [hrec]
        rw [e1]
        refine wpIn_mono hb ?_
        rintro e2 a₂ w₂ hq
        cases e2 with
        | normal =>
          obtain ⟨hb2, hR⟩ := hq
          have := run_endRound (P := P) none hb2
          have e3 : ({ rec .busy with state := if (none : Option Code).isNone then .ready else .done, pending := none } : Loop) = rec .ready := by rw [hrec]; rfl
          rw [e3] at this
          exact ⟨_, _, this, hR⟩
        | exit id => exact hq.elim
        | goto t => exact hq.elim
        | ret => exact hq.elim
        | panic c => exact hq.elim
        | outgrown => exact hq.elim
      | exit id => exact hp.elim
      | goto t => exact hp.elim
      | ret => exact hp.elim
      | panic c => exact hp.elim
      | outgrown => exact hp.elim
    · rintro e W' ⟨⟨v, rfl⟩, hl, hq⟩
      have := run_endLoop (P := P) hl (by rw [hrec]; simp)
      have e1 : ({ rec .ready with state := .exhausted } : Loop) = rec .exhausted := by rw [hrec]
      rw [e1] at this
      exact ⟨none, _, by rw [this]; rw [hrec], hq⟩
end Gn
end Go.Proofs.YtncoedoiakaedaaDoor
