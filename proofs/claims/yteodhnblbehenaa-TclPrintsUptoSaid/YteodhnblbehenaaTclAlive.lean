/- What the document's examples are. No condition. -/
import Derived.Test.YteodhnblbehenaaTclParse
set_option linter.unusedVariables false
set_option linter.unusedSimpArgs false
namespace Go.Proofs.Yteodhnblbehenaa
open Go.RowKit Tcl
theorem ex_one : parse [115, 101, 110, 100, 32, 34, 97, 92, 110, 36, 120, 34, 32, 59, 32, 35, 32, 110, 111] = .ok [⟨0, [⟨0, 0, [⟨false, [115, 101, 110, 100]⟩]⟩, ⟨5, 1, [⟨false, [97, 10]⟩, ⟨true, [120]⟩]⟩]⟩] := by kernel_rfl
theorem ex_two : parse [123, 97] = .error (0, 5) := by kernel_rfl
theorem ex_three : parse [34, 97, 34, 98] = .error (3, 4) := by kernel_rfl
/-- Where a row that isn't empty lies. -/
theorem Sl.row {w : World} {size : Nat} {A : Option Addr} {n c : Nat} {xs : List Value} (h : Sl w size (.slice A n c) n xs) (hx : 0 < xs.length) :
    ∃ b o, A = some ⟨b, o, none⟩ ∧ ∀ j u, xs[j]? = some u → w.cell? ⟨b, o + j, none⟩ = some u := by
  obtain ⟨A0, c0, e0, h0, h1, h2, h3, h4⟩ := h
  obtain ⟨rfl, rfl⟩ : A0 = A ∧ c0 = c := by simp at e0; exact ⟨e0.1.symm, e0.2.symm⟩
  obtain ⟨ad, rfl, hr⟩ := h4 hx
  have hspot : ad.spot = none := by
    have := hr 0 _ (List.getElem?_eq_getElem hx)
    exact World.cell?_spot (a := ad) (by simpa [Addr.add] using this)
  obtain ⟨b, off, spot⟩ := ad
  simp only at hspot
  subst hspot
  refine ⟨b, off, rfl, fun j u hu => ?_⟩
  have := hr j _ hu
  have ha : (⟨b, off, none⟩ : Addr).add j = ⟨b, off + j, none⟩ := by unfold Addr.add; split <;> simp_all
  rwa [ha] at this
theorem parse_ok {w : World} {s : List UInt8} {e : Ending} {w' : World} {cs : List Cmd} (h : PaRes w s e w') (hp : parse s = .ok cs) :
    Chg [] w w' ∧ ∃ A n c xs, e = .returned (.tuple #[.slice A n c, .int .i64 0, .int .i64 0]) ∧ n = cs.length ∧ Sl w' 2 (.slice A n c) n xs ∧ CmdsAt w' w.heap.size (Value.slice A n c).ownBlock xs cs ∧ (∀ q, (Value.slice A n c).ownBlock = some q → w.heap.size ≤ q) ∧ n ≤ s.length := by
  obtain ⟨hC, h | h⟩ := h
  · obtain ⟨A, n, c, xs, cs', rfl, h1, h2, h3, h4, h5⟩ := h
    rw [hp] at h1; cases h1
    exact ⟨hC, A, n, c, xs, rfl, h2, h3, h4, h5⟩
  · obtain ⟨p, q, -, h1, -⟩ := h
    rw [hp] at h1; cases h1
theorem parse_bad {w : World} {s : List UInt8} {e : Ending} {w' : World} {p q : Nat} (h : PaRes w s e w') (hp : parse s = .error (p, q)) :
    Chg [] w w' ∧ e = .returned (.tuple #[.slice none 0 0, .int .i64 p, .int .i64 q]) := by
  obtain ⟨hC, h | h⟩ := h
  · obtain ⟨A, n, c, xs, cs', rfl, h1, -⟩ := h
    rw [hp] at h1; cases h1
  · obtain ⟨p, q, rfl, h1, -⟩ := h
    rw [hp] at h1; cases h1
    exact ⟨hC, rfl⟩
/-- The first command of a row. -/
theorem cmds_at {w : World} {base : Nat} {row : Option Nat} {A : Option Addr} {n c : Nat} {xs : List Value} {cs : List Cmd} (h : Sl w 2 (.slice A n c) n xs) (hX : CmdsAt w base row xs cs) (hn : 0 < cs.length) :
    ∃ b o, A = some ⟨b, o, none⟩ ∧ ∀ k cm, cs[k]? = some cm → ∃ A1 c1 ys, w.cell? ⟨b, o + k * 2, none⟩ = some (.int .i64 cm.at_) ∧ w.cell? ⟨b, o + (k * 2 + 1), none⟩ = some (.slice A1 cm.words.length c1) ∧ Sl w 3 (.slice A1 cm.words.length c1) cm.words.length ys ∧ WordsAt w base row ys cm.words := by
  have hl := hX.1
  obtain ⟨b, o, rfl, hr⟩ := h.row (by omega)
  refine ⟨b, o, rfl, fun k cm hk => ?_⟩
  obtain ⟨A1, c1, ys, h1, h2, h3, h4, -⟩ := hX.2 k cm hk
  exact ⟨A1, c1, ys, hr _ _ h1, hr _ _ h2, h3, h4⟩
theorem words_at {w : World} {base : Nat} {row : Option Nat} {A : Option Addr} {n c : Nat} {xs : List Value} {ws : List Word} (h : Sl w 3 (.slice A n c) n xs) (hX : WordsAt w base row xs ws) (hn : 0 < ws.length) :
    ∃ b o, A = some ⟨b, o, none⟩ ∧ ∀ k wd, ws[k]? = some wd → ∃ A1 c1, w.cell? ⟨b, o + k * 3, none⟩ = some (.int .i64 wd.at_) ∧ w.cell? ⟨b, o + (k * 3 + 1), none⟩ = some (.int .i64 wd.kind) ∧ w.cell? ⟨b, o + (k * 3 + 2), none⟩ = some (.slice A1 wd.parts.length c1) ∧ PartsAt w (.slice A1 wd.parts.length c1) wd.parts := by
  have hl := hX.1
  obtain ⟨b, o, rfl, hr⟩ := h.row (by omega)
  refine ⟨b, o, rfl, fun k wd hk => ?_⟩
  obtain ⟨A1, c1, h1, h2, h3, h4, -⟩ := hX.2 k wd hk
  exact ⟨A1, c1, hr _ _ h1, hr _ _ h2, hr _ _ h3, h4⟩
theorem parts_get (l : List Part) : ∀ (k : Nat) (p : Part), l[k]? = some p → (partsCells l)[k * 2]? = some (.bool p.var) ∧ (partsCells l)[k * 2 + 1]? = some (.string (bstr p.s)) := by
  induction l with
  | nil => intro k p h; simp at h
  | cons x l ih =>
    intro k p h
    cases k with
    | zero => simp at h; subst h; exact ⟨rfl, rfl⟩
    | succ k =>
      have := ih k p (by simpa using h)
      have e : partsCells (x :: l) = .bool x.var :: .string (bstr x.s) :: partsCells l := rfl
      rw [e, show (k + 1) * 2 = k * 2 + 1 + 1 by omega]
      exact this
theorem parts_at {w : World} {A : Option Addr} {n c : Nat} {ps : List Part} (h : PartsAt w (.slice A n c) ps) (hn : 0 < ps.length) :
    ∃ b o, A = some ⟨b, o, none⟩ ∧ ∀ k p, ps[k]? = some p → w.cell? ⟨b, o + k * 2, none⟩ = some (.bool p.var) ∧ w.cell? ⟨b, o + (k * 2 + 1), none⟩ = some (.string (bstr p.s)) := by
  obtain ⟨A0, c0, e0, h1⟩ := id h
  simp only [Value.slice.injEq] at e0
  obtain ⟨rfl, rfl, rfl⟩ := e0
  obtain ⟨b, o, rfl, hr⟩ := Sl.row h (by have := partsCells_length ps; omega)
  refine ⟨b, o, rfl, fun k p hk => ?_⟩
  have hg := parts_get ps k p hk
  exact ⟨hr _ _ hg.1, hr _ _ hg.2⟩
set_option maxRecDepth 100000 in
set_option maxHeartbeats 16000000 in
theorem alive_any (w : World) : Calls Try.prog 13 #[] w fun e w' => e = .returned (.bool true) ∧ Chg [] w w' := by
  have h1 := Lib.hid (fun w => parse_any w [115, 101, 110, 100, 32, 34, 97, 92, 110, 36, 120, 34, 32, 59, 32, 35, 32, 110, 111] (by decide))
  have h2 := Lib.hid (fun w => parse_any w [123, 97] (by decide))
  have h3 := Lib.hid (fun w => parse_any w [34, 97, 34, 98] (by decide))
  go_enter Try.func13, Try.ntmps13
  go_wp2_with fail
  refine (h1.out _).mono ?_
  rintro e w1 hr
  obtain ⟨hC1, A, n, c, xs, rfl, rfl, hS, hX, -⟩ := parse_ok hr ex_one
  obtain ⟨b, o, rfl, hc⟩ := cmds_at hS hX (by decide)
  obtain ⟨A1, c1, ys, -, r1, hS1, hX1⟩ := hc 0 _ rfl
  obtain ⟨b1, o1, rfl, hc1⟩ := words_at hS1 hX1 (by decide)
  obtain ⟨A2, c2, r2, r3, r4, hp⟩ := hc1 1 _ rfl
  obtain ⟨b2, o2, rfl, hc2⟩ := parts_at hp (by decide)
  obtain ⟨r5, r6⟩ := hc2 0 _ rfl
  obtain ⟨r7, r8⟩ := hc2 1 _ rfl
  clear hr hS hX hc hS1 hX1 hc1 hp hc2
  replace hC1 := Lib.hid hC1
  go_wp2_with fail
  refine (h2.out _).mono ?_
  rintro e w2 hr
  obtain ⟨hC2, rfl⟩ := parse_bad hr ex_two
  replace hC2 := Lib.hid hC2
  clear hr
  go_wp2_with fail
  refine (h3.out _).mono ?_
  rintro e w3 hr
  obtain ⟨hC3, rfl⟩ := parse_bad hr ex_three
  have hC := hC2.out.trans hC3
  replace r1 := hC.cell r1 (by simp)
  replace r2 := hC.cell r2 (by simp)
  replace r3 := hC.cell r3 (by simp)
  replace r4 := hC.cell r4 (by simp)
  replace r5 := hC.cell r5 (by simp)
  replace r6 := hC.cell r6 (by simp)
  replace r7 := hC.cell r7 (by simp)
  replace r8 := hC.cell r8 (by simp)
  replace hC := Lib.hid (hC1.out.trans hC)
  clear hr hC2 hC3 hC1
  simp only [List.length_cons, List.length_nil] at r1 r2 r3 r4 r5 r6 r7 r8 ⊢
  have s5 := fun ob => ((Chg.refl [] w3).alloc ob).cell r5 (by simp)
  have s6 := fun ob => ((Chg.refl [] w3).alloc ob).cell r6 (by simp)
  have s7 := fun ob => ((Chg.refl [] w3).alloc ob).cell r7 (by simp)
  have s8 := fun ob => ((Chg.refl [] w3).alloc ob).cell r8 (by simp)
  simp only [Nat.zero_mul, Nat.one_mul, Nat.add_zero, Nat.zero_add] at r1 r2 r3 r4 s5 s6 s7 s8
  clear r5 r6 r7 r8
  rw [show bstr [97, 10] = (⟨#[97, 10]⟩ : ByteArray) from rfl] at s6
  rw [show bstr [120] = (⟨#[120]⟩ : ByteArray) from rfl] at s8
  go_wp2_with fail
  all_goals
    go_ret
    exact ⟨by first | rfl | (simp; done) | (simp_all; done), hC.out.alloc _⟩
end Go.Proofs.Yteodhnblbehenaa
