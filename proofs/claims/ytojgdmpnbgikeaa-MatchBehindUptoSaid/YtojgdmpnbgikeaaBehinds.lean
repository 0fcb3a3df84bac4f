/- More, Behind, Upto: texts of mine, joined. Conditions: as they state. -/
import Derived.Test.YtojgdmpnbgikeaaNew
import Derived.Test.YtojgdmpnbgikeaaFirst
import Derived.Test.YtojgdmpnbgikeaaLFeeds
import Derived.Test.YtojgdmpnbgikeaaRows
import Derived.Test.YtojgdmpnbgikeaaReads
set_option linter.unusedVariables false
set_option linter.unusedSimpArgs false
namespace Go.Proofs.Ytojgdmpnbgikeaa
namespace Mt
open Kmp Glob
theorem first_cases (M : Nat) (l : List Br) (b : List UInt8) : (firstOf M l b = none ∧ ∀ j, j ≤ b.length → hitOf M l (b.take j) = none) ∨
    ∃ k p, k ≤ b.length ∧ hitOf M l (b.take k) = some p ∧ (∀ j, j < k → hitOf M l (b.take j) = none) ∧ firstOf M l b = some (p.1, p.2, k) := by
  have key : ∀ m, (∀ j, j < m → hitOf M l (b.take j) = none) ∨ ∃ k p, k < m ∧ hitOf M l (b.take k) = some p ∧ ∀ j, j < k → hitOf M l (b.take j) = none := by
    intro m
    induction m with
    | zero => exact .inl fun j hj => by omega
    | succ m ih =>
      rcases ih with h | ⟨k, p, h1, h2, h3⟩
      · cases hm : hitOf M l (b.take m) with
        | none =>
          refine .inl fun j hj => ?_
          rcases Nat.lt_or_ge j m with h4 | h4
          · exact h j h4
          · obtain rfl : j = m := by omega
            exact hm
        | some p => exact .inr ⟨m, p, by omega, hm, h⟩
      · exact .inr ⟨k, p, by omega, h2, h3⟩
  rcases key (b.length + 1) with h | ⟨k, p, h1, h2, h3⟩
  · exact .inl ⟨first_none fun j hj => h j (by omega), fun j hj => h j (by omega)⟩
  · exact .inr ⟨k, p, by omega, h2, h3, first_hit (by omega) h3 h2⟩
theorem hit_snoc (M : Nat) (l : List Br) (x : Br) (T : List UInt8) : hitOf M (l ++ [x]) T = match hitOf M l T with | some p => some p | none => (fromOf M x T).map fun f => (l.length, f) := by
  induction l with
  | nil =>
    simp only [List.nil_append, hitOf]
    cases fromOf M x T <;> rfl
  | cons y l ih =>
    rw [List.cons_append, hitOf, hitOf]
    cases h : fromOf M y T with
    | some f => rfl
    | none =>
      rw [ih]
      cases hitOf M l T with
      | some p => rfl
      | none => cases fromOf M x T <;> rfl
theorem hit_lt {M : Nat} {l : List Br} {T : List UInt8} {p : Nat × Nat} (h : hitOf M l T = some p) : ∃ x, l[p.1]? = some x ∧ fromOf M x T = some p.2 := by
  induction l generalizing p with
  | nil => cases h
  | cons y l ih =>
    rw [hitOf] at h
    cases hf : fromOf M y T with
    | some f =>
      rw [hf] at h
      simp only [Option.some.injEq] at h
      subst h
      exact ⟨y, rfl, hf⟩
    | none =>
      rw [hf] at h
      simp only [Option.map_eq_some_iff] at h
      obtain ⟨q, h1, rfl⟩ := h
      obtain ⟨x, h2, h3⟩ := ih h1
      exact ⟨x, by simpa using h2, h3⟩
/-- With a branch more. -/
theorem more_cases (M : Nat) (l : List Br) (x : Br) (b : List UInt8) : (firstOf M (l ++ [x]) b = none ∧ firstOf M l b = none) ∨
    (∃ f t, firstOf M (l ++ [x]) b = some (l.length, f, t) ∧ (firstOf M l b = none ∨ ∃ i f' t', firstOf M l b = some (i, f', t') ∧ t < t')) ∨
    ∃ i f t, firstOf M (l ++ [x]) b = some (i, f, t) ∧ firstOf M l b = some (i, f, t) ∧ i < l.length := by
  rcases first_cases M (l ++ [x]) b with ⟨h1, h2⟩ | ⟨k, p, h1, h2, h3, h4⟩
  · refine .inl ⟨h1, first_none fun j hj => ?_⟩
    have := h2 j hj
    rw [hit_snoc] at this
    cases h : hitOf M l (b.take j) with
    | none => rfl
    | some q => rw [h] at this; cases this
  · have hlow : ∀ j, j < k → hitOf M l (b.take j) = none := fun j hj => by
      have := h3 j hj
      rw [hit_snoc] at this
      cases h : hitOf M l (b.take j) with
      | none => rfl
      | some q => rw [h] at this; cases this
    have hk := h2
    rw [hit_snoc] at hk
    cases h : hitOf M l (b.take k) with
    | some q =>
      rw [h] at hk
      simp only [Option.some.injEq] at hk
      subst hk
      obtain ⟨y, hy, -⟩ := hit_lt h
      exact .inr (.inr ⟨q.1, q.2, k, h4, first_hit h1 hlow h, (List.getElem?_eq_some_iff.1 hy).1⟩)
    | none =>
      rw [h] at hk
      simp only [Option.map_eq_some_iff] at hk
      obtain ⟨f, hf, rfl⟩ := hk
      refine .inr (.inl ⟨f, k, h4, ?_⟩)
      rcases first_cases M l b with ⟨h5, h6⟩ | ⟨k', p', h5, h6, h7, h8⟩
      · exact .inl h5
      · refine .inr ⟨p'.1, p'.2, k', h8, ?_⟩
        rcases Nat.lt_trichotomy k k' with h9 | rfl | h9
        · exact h9
        · rw [h] at h6; cases h6
        · rw [hlow k' h9] at h6; cases h6
theorem br_snoc {l : List Br} {x : Br} (h : brErr (l ++ [x]) = 0) : brErr l = 0 := by
  induction l with
  | nil => rfl
  | cons y l ih =>
    rw [List.cons_append, brErr] at h
    rw [brErr]
    split at h
    · cases h
    · rename_i h1
      rw [if_neg h1]
      split at h
      · rename_i h2; exact absurd h h2.2
      · rename_i h2
        rw [if_neg h2]; exact ih h
theorem new_snoc {most : Int} {l : List Br} {x : Br} (h1 : 1 ≤ most) (h2 : most ≤ 1048576) (h3 : (l ++ [x]).length ≤ 64) (h4 : brErr (l ++ [x]) = 0) : newErr most l = 0 := by
  rw [newErr, if_neg (by omega), if_neg (by simp at h3; omega)]
  exact br_snoc h4
end Mt
end Go.Proofs.Ytojgdmpnbgikeaa
namespace Go.Proofs.Ytojgdmpnbgikeaa
open Go.RowKit PMatchFeeds YtojgdmpnbgikeaaW.PrintWords
namespace Mt
open Kmp Glob
theorem from_iff {M f : Nat} {x : Br} {T : List UInt8} : fromOf M x T = some f ↔ f ≤ T.length ∧ T.length ≤ f + M ∧ fits x (T.drop f) = true ∧ ∀ j, j < f → T.length ≤ j + M → fits x (T.drop j) = false := by
  constructor
  · intro h
    obtain ⟨h1, h2, h3⟩ := from_spec h
    refine ⟨h1, h2, h3, fun j hj hm => ?_⟩
    unfold fromOf at h
    rw [List.find?_range_eq_some] at h
    have := h.2.2 j hj
    simpa [hm] using this
  · rintro ⟨h1, h2, h3, h4⟩
    exact from_some h1 h2 h3 h4
theorem from_none_iff {M : Nat} {x : Br} {T : List UInt8} (h : fromOf M x T = none) : ∀ j, j ≤ T.length → T.length ≤ j + M → fits x (T.drop j) = false := by
  intro j hj hm
  unfold fromOf at h
  rw [List.find?_eq_none] at h
  have := h j (by rw [List.mem_range]; omega)
  simpa [hm] using this
theorem from_behind {M : Nat} {x : Br} {a T : List UInt8} (hM : M ≤ T.length) : fromOf M x (a ++ T) = (fromOf M x T).map (· + a.length) := by
  have hd : ∀ j, a.length ≤ j → (a ++ T).drop j = T.drop (j - a.length) := fun j hj => by
    rw [List.drop_append, List.drop_eq_nil_of_le hj, List.nil_append]
  cases h : fromOf M x T with
  | some f =>
    obtain ⟨h1, h2, h3, h4⟩ := from_iff.1 h
    rw [Option.map_some]
    refine from_iff.2 ⟨by simp; omega, by simp; omega, ?_, fun j hj hm => ?_⟩
    · rw [hd _ (by omega), show f + a.length - a.length = f by omega]; exact h3
    · rw [List.length_append] at hm
      rw [hd _ (by omega)]
      exact h4 _ (by omega) (by omega)
  | none =>
    rw [Option.map_none]
    refine from_none fun j hj hm => ?_
    rw [List.length_append] at hm hj
    rw [hd _ (by omega)]
    exact from_none_iff h _ (by omega) (by omega)
theorem hit_behind {M : Nat} {l : List Br} {a T : List UInt8} (hM : M ≤ T.length) : hitOf M l (a ++ T) = (hitOf M l T).map fun p => (p.1, p.2 + a.length) := by
  induction l with
  | nil => rfl
  | cons x l ih =>
    rw [hitOf, hitOf, from_behind hM, ih]
    cases fromOf M x T with
    | some f => rfl
    | none =>
      cases hitOf M l T <;> rfl
/-- A byte more for one of two matchers. -/
theorem feed_two {w0 w : World} {F G : Nat → Prop} {g g' : Nat} {l : List Br} {M : Nat} {T T' : List UInt8} {c : UInt8} (hC : Chg [] w0 w) (H : MS w F g l M T) (H' : MS w G g' l M T') (hFG : ∀ q, F q → ¬ G q) (hF : ∀ q, F q → w0.heap.size ≤ q) (hT : T.length < 900000) :
    Calls Try.prog 16 #[.pointer (some ⟨g, 0, none⟩), .int .u8 c.toNat] w fun e w' => e = .returned (hitV (hitOf M l (T ++ [c])) (T ++ [c]).length) ∧ Hid (∃ F', MS w' F' g l M (T ++ [c]) ∧ MS w' G g' l M T' ∧ (∀ q, F' q → ¬ G q) ∧ ∀ q, F' q → w0.heap.size ≤ q) ∧ Hid (Chg [] w0 w') ∧ Hid (∀ q o, ¬ F q → w.heap[q]? = some o → w'.heap[q]? = some o) := by
  refine (mfeed_any w F g l M T c H hT).mono ?_
  rintro e w' ⟨rfl, F', h1, h2, S, h3, h4⟩
  have hs := hC.size
  refine ⟨rfl, Lib.hid ⟨F', h1, H'.chg h3 (fun k hk => hFG k (h4 k hk)), fun q hq hg => ?_, fun q hq => ?_⟩, Lib.hid (hC.then h3 fun q hq => .inr (hF q (h4 q hq))), Lib.hid fun q o hq ho => h3.heap ho (fun hm => hq (h4 q hm))⟩
  · rcases h2 q hq with h | h
    · exact hFG q h hg
    · have := H'.lt q hg; omega
  · rcases h2 q hq with h | h
    · exact hF q h
    · omega
end Mt
end Go.Proofs.Ytojgdmpnbgikeaa
namespace Go.Proofs.Ytojgdmpnbgikeaa
open Go.ChangeShapes Go.WideShapes Go.Deep
namespace Upto
variable {H : Type} {enc : TypeId × Value → H} {P : Program} {w : World} {base : Nat} {spare : Nat → Bool} {held : Bool}
theorem pos (d : DataW H) : 1 ≤ Rows.uptoBulk d := by
  cases d with
  | lit l => cases l <;> simp [Rows.uptoBulk]
  | _ => simp [Rows.uptoBulk]
theorem all_len (l : List (DataW H)) : l.length ≤ Rows.uptoBulkAll l := by
  induction l with
  | nil => simp
  | cons d l ih => have := pos d; simp [Rows.uptoBulkAll]; omega
theorem slice {t e : TypeId} {fuel : Nat} {A : Option Addr} {n c : Nat} {x : DataW H × List MemPlace} (ht : P.underlying t = some (.slice e)) (h : DataW.trod enc P w base spare held fuel t [.slice A n c] = some x) : n ≤ Rows.uptoBulk x.1 := by
  rcases open_slice ht h with ⟨hcs, _⟩ | ⟨a, len, cap, m, fu, D, Pl, hcs, _, hl, hm, hmm, hx, hi⟩
  · simp at hcs; omega
  · simp at hcs
    obtain ⟨_, rfl, _⟩ := hcs
    subst hx
    have := all_len ((List.range n).map D)
    simp at this
    simp only [Rows.uptoBulk]
    omega
theorem two {t e f : TypeId} {fuel : Nat} {A A' : Option Addr} {n n' c c' : Nat} {x : DataW H × List MemPlace} (ht : P.underlying t = some (.array 2 e)) (he : P.underlying e = some (.slice f)) (hc : P.cellsOf e = 1) (h : DataW.trod enc P w base spare held fuel t [.slice A n c, .slice A' n' c'] = some x) : n + n' ≤ Rows.uptoBulk x.1 := by
  obtain ⟨ys, m, _, rfl, hl, hyl, hf⟩ := DataW.trod_array ht h
  have h0 := hf 0 (by omega)
  have h1 := hf 1 (by omega)
  rw [hc] at h0 h1
  obtain ⟨y0, y1, rfl⟩ : ∃ y0 y1, ys = [y0, y1] := by
    match ys, hyl with
    | [y0, y1], _ => exact ⟨y0, y1, rfl⟩
  simp at h0 h1
  have k0 := slice he h0
  have k1 := slice he h1
  simp only [List.map_cons, List.map_nil, Rows.uptoBulk, Rows.uptoBulkAll]
  omega
end Upto
end Go.Proofs.Ytojgdmpnbgikeaa
