/- Turns: of merged events, and byte by byte. Plain Lean, no program in sight. No condition. -/
set_option linter.unusedVariables false
set_option linter.unusedSimpArgs false
namespace Go.Proofs.YtncoedoiakaedaaDoor
namespace Turn
/-- A turn: what the child said, what the user said to that. -/
abbrev Tn := List UInt8 × List UInt8
/-- An event: whether it is the user's, and its bytes. -/
abbrev Ev := Bool × List UInt8
/-- The last turn gets bytes more. -/
def addLast (ts : List Tn) (d : Bool) (x : List UInt8) : List Tn := match ts.getLast? with
  | none => ts
  | some t => ts.dropLast ++ [if d then (t.1, t.2 ++ x) else (t.1 ++ x, t.2)]
/-- The reference's step: a byte. -/
def addB (s : List Tn × Bool) (d : Bool) (x : UInt8) : List Tn × Bool :=
  (addLast (if s.1 = [] ∨ (d = false ∧ s.2 = true) then s.1 ++ [([], [])] else s.1) d [x], d)
def addBs (s : List Tn × Bool) (e : Ev) : List Tn × Bool := e.2.foldl (fun s x => addB s e.1 x) s
def refT (l : List Ev) : List Tn × Bool := l.foldl addBs ([], true)
/-- The program's merging. -/
def mstep (m : List Ev) (e : Ev) : List Ev := if e.2 = [] then m else match m.getLast? with
  | none => m ++ [e]
  | some k => if k.1 = e.1 then m.dropLast ++ [(k.1, k.2 ++ e.2)] else m ++ [e]
def merge (l : List Ev) : List Ev := l.foldl mstep []
/-- The turns of merged events. -/
def tstep (ts : List Tn) (e : Ev) : List Tn := if e.1 then (match ts.getLast? with | none => [([], e.2)] | some t => ts.dropLast ++ [(t.1, e.2)]) else ts ++ [(e.2, [])]
def turnsOf (m : List Ev) : List Tn := m.foldl tstep []
def lastD (m : List Ev) : Bool := match m.getLast? with | none => true | some k => k.1
theorem turnsOf_snoc (m : List Ev) (e : Ev) : turnsOf (m ++ [e]) = tstep (turnsOf m) e := by unfold turnsOf; rw [List.foldl_append]; rfl
theorem lastD_snoc (m : List Ev) (e : Ev) : lastD (m ++ [e]) = e.1 := by unfold lastD; simp
theorem addLast_add (ts : List Tn) (d : Bool) (x y : List UInt8) : addLast (addLast ts d x) d y = addLast ts d (x ++ y) := by
  unfold addLast
  cases h : ts.getLast? with
  | none => simp only [h]
  | some t => cases d <;> simp
theorem addLast_ne {ts : List Tn} (h : ts ≠ []) (d : Bool) (x : List UInt8) : addLast ts d x ≠ [] := by
  unfold addLast
  split
  · exact h
  · simp
/-- Bytes of the direction of the last ones. -/
theorem addBs_same {ts : List Tn} (h : ts ≠ []) (d : Bool) : ∀ (x : List UInt8), x.foldl (fun s b => addB s d b) (ts, d) = (if x = [] then ts else addLast ts d x, d)
  | [] => by simp
  | b :: r => by
    rw [List.foldl_cons]
    have e : addB (ts, d) d b = (addLast ts d [b], d) := by
      unfold addB
      rw [if_neg]
      rintro (h1 | ⟨h1, h2⟩)
      · exact h h1
      · simp only at h2; rw [h1] at h2; cases h2
    rw [e, addBs_same (addLast_ne h d [b]) d r]
    by_cases hr : r = []
    · subst hr; simp
    · simp [hr, addLast_add]
/-- A list of merged events: bytes in each, no neighbours of one direction. -/
def Alt : List Ev → Prop
  | [] => True
  | [e] => e.2 ≠ []
  | a :: b :: r => a.2 ≠ [] ∧ a.1 ≠ b.1 ∧ Alt (b :: r)
theorem tstep_ne (ts : List Tn) (e : Ev) : tstep ts e ≠ [] := by
  unfold tstep
  split
  · split <;> simp
  · simp
theorem turnsOf_ne {m : List Ev} (h : m ≠ []) : turnsOf m ≠ [] := by
  obtain ⟨r, e, rfl⟩ : ∃ r e, m = r ++ [e] := ⟨m.dropLast, m.getLast h, (List.dropLast_concat_getLast h).symm⟩
  rw [turnsOf_snoc]; exact tstep_ne _ _
/-- More bytes to the last event are more bytes to the last turn. -/
theorem tstep_more (ts : List Tn) (d : Bool) (x y : List UInt8) : addLast (tstep ts (d, x)) d y = tstep ts (d, x ++ y) := by
  unfold tstep addLast
  cases d
  · simp
  · cases h : ts.getLast? with
    | none => simp
    | some t => simp
/-- The last turn's user has said nothing yet, where the last event is the child's. -/
def Fresh (m : List Ev) : Prop := lastD m = false → ∀ t, (turnsOf m).getLast? = some t → t.2 = []
theorem fresh_all (m : List Ev) : Fresh m := by
  intro h t ht
  by_cases hm : m = []
  · subst hm; unfold lastD at h; simp at h
  · obtain ⟨r, e, rfl⟩ : ∃ r e, m = r ++ [e] := ⟨m.dropLast, m.getLast hm, (List.dropLast_concat_getLast hm).symm⟩
    rw [lastD_snoc] at h
    rw [turnsOf_snoc] at ht
    unfold tstep at ht
    rw [if_neg (by rw [h]; simp)] at ht
    simp at ht
    rw [← ht]
theorem addBs_new {m : List Ev} (d : Bool) (hd : m = [] ∨ lastD m ≠ d) : ∀ {x : List UInt8}, x ≠ [] → x.foldl (fun s b => addB s d b) (turnsOf m, lastD m) = (tstep (turnsOf m) (d, x), d)
  | [], h => absurd rfl h
  | b :: r, _ => by
    rw [List.foldl_cons]
    have e : addB (turnsOf m, lastD m) d b = (tstep (turnsOf m) (d, [b]), d) := by
      unfold addB tstep
      by_cases hm : m = []
      · subst hm
        have : turnsOf [] = [] := rfl
        rw [this, if_pos (.inl rfl)]
        cases d <;> rfl
      · have hne := turnsOf_ne hm
        have hd2 : lastD m ≠ d := hd.resolve_left hm
        cases d
        · rw [if_pos (.inr ⟨rfl, by cases h : lastD m with | true => rfl | false => exact absurd h hd2⟩)]
          simp [addLast]
        · have hl : lastD m = false := by cases h : lastD m with | false => rfl | true => exact absurd h hd2
          rw [if_neg (by rintro (h | ⟨h, -⟩); exact hne h; cases h)]
          obtain ⟨t, ht⟩ : ∃ t, (turnsOf m).getLast? = some t := ⟨_, List.getLast?_eq_some_getLast hne⟩
          have := fresh_all m hl t ht
          simp [addLast, ht, this]
    rw [e, addBs_same (tstep_ne _ _) d r]
    by_cases hr : r = []
    · subst hr; simp
    · simp only [hr, if_false]
      rw [tstep_more]; rfl
theorem merge_ref : ∀ (l : List Ev) (m : List Ev), l.foldl addBs (turnsOf m, lastD m) = (turnsOf (l.foldl mstep m), lastD (l.foldl mstep m))
  | [], m => rfl
  | e :: l, m => by
    rw [List.foldl_cons, List.foldl_cons]
    have step : addBs (turnsOf m, lastD m) e = (turnsOf (mstep m e), lastD (mstep m e)) := by
      obtain ⟨d, x⟩ := e
      unfold addBs mstep
      by_cases hx : x = []
      · subst hx; simp
      · simp only [hx, if_false]
        by_cases hm : m = []
        · subst hm
          rw [addBs_new d (.inl rfl) hx]
          simp only [List.getLast?_nil]
          rw [turnsOf_snoc, lastD_snoc]
        · obtain ⟨r, k, rfl⟩ : ∃ r e, m = r ++ [e] := ⟨m.dropLast, m.getLast hm, (List.dropLast_concat_getLast hm).symm⟩
          simp only [List.getLast?_append, List.getLast?_singleton, Option.some_or, List.dropLast_concat]
          by_cases hd : k.1 = d
          · rw [if_pos hd, lastD_snoc, turnsOf_snoc, turnsOf_snoc, lastD_snoc, hd, addBs_same (tstep_ne _ _) d x, if_neg hx]
            obtain ⟨k1, k2⟩ := k
            simp only at hd
            subst hd
            rw [tstep_more]
          · rw [if_neg hd, addBs_new d (.inr (by rw [lastD_snoc]; exact hd)) hx, turnsOf_snoc (r ++ [k]), lastD_snoc (r ++ [k]), turnsOf_snoc]
    rw [step]
    exact merge_ref l _
/-- The turns byte by byte are those of the merged events. -/
theorem turns_ref (l : List Ev) : (refT l).1 = turnsOf (merge l) := congrArg Prod.fst (merge_ref l [])
/-- The program's loop over merged events. -/
def pstep (s : List Tn × Tn) (e : Ev) : List Tn × Tn := if e.1 then (s.1, (s.2.1, e.2)) else (if s.2 = ([], []) then s.1 else s.1 ++ [s.2], (e.2, []))
def fin (s : List Tn × Tn) : List Tn := if s.2 = ([], []) then s.1 else s.1 ++ [s.2]
theorem pstep_fin {s : List Tn × Tn} {e : Ev} (he : e.2 ≠ []) (hs : s.2 = ([], []) → s.1 = []) : fin (pstep s e) = tstep (fin s) e ∧ (pstep s e).2 ≠ ([], []) := by
  obtain ⟨acc, t⟩ := s
  obtain ⟨d, x⟩ := e
  simp only at he hs
  cases d
  · constructor
    · unfold pstep fin tstep
      simp [he]
    · unfold pstep; simp [he]
  · constructor
    · unfold pstep fin tstep
      by_cases ht : t = ([], [])
      · have := hs ht
        subst ht this
        simp [he]
      · simp [ht, he]
    · unfold pstep; simp [he]
theorem pturns : ∀ (m : List Ev) (s : List Tn × Tn), (∀ e ∈ m, e.2 ≠ []) → (s.2 = ([], []) → s.1 = []) → fin (m.foldl pstep s) = m.foldl tstep (fin s)
  | [], s, _, _ => rfl
  | e :: m, s, hm, hs => by
    obtain ⟨h1, h2⟩ := pstep_fin (hm e (by simp)) hs
    rw [List.foldl_cons, List.foldl_cons, pturns m (pstep s e) (fun x hx => hm x (by simp [hx])) (fun h => absurd h h2), h1]
theorem mstep_data {m : List Ev} {e : Ev} (hm : ∀ x ∈ m, x.2 ≠ []) : ∀ x ∈ mstep m e, x.2 ≠ [] := by
  unfold mstep
  split
  · exact hm
  · rename_i he
    split
    · intro x hx
      rcases List.mem_append.1 hx with hx | hx
      · exact hm x hx
      · simp at hx; subst hx; exact he
    · rename_i k hk
      split
      · intro x hx
        rcases List.mem_append.1 hx with hx | hx
        · exact hm x (List.dropLast_subset _ hx)
        · simp at hx; subst hx; simp [he]
      · intro x hx
        rcases List.mem_append.1 hx with hx | hx
        · exact hm x hx
        · simp at hx; subst hx; exact he
theorem merge_data : ∀ (l m : List Ev), (∀ x ∈ m, x.2 ≠ []) → ∀ x ∈ l.foldl mstep m, x.2 ≠ []
  | [], m, h => h
  | e :: l, m, h => by rw [List.foldl_cons]; exact merge_data l _ (mstep_data h)
/-- What the program's loop tells is what the reference does, byte by byte. -/
theorem turns_prog (l : List Ev) : fin ((merge l).foldl pstep ([], ([], []))) = (refT l).1 := by
  rw [turns_ref]
  exact pturns (merge l) ([], ([], [])) (merge_data l [] (by simp)) (fun _ => rfl)
end Turn
end Go.Proofs.YtncoedoiakaedaaDoor
