/- PlSpec, PlPlace, PlShift, TclIn, PlJoinK, PlBodyK: texts of mine, joined. Conditions: as they state. -/
import Derived.Test.YtnjjbiialpmhbaaTclEqs
import Derived.Test.YtnjjbiialpmhbaaTclWd
set_option linter.unusedVariables false
set_option linter.unusedSimpArgs false
namespace Go.Proofs.Ytnjjbiialpmhbaa
namespace Plan
open Tcl
mutual
inductive Op where
  | mk (kind at_ : Nat) (words : List Word) (arms : List Arm)
inductive Arm where
  | mk (kind : Nat) (pat : Word) (body : List Op)
end
namespace Op
def kind : Op → Nat | mk k _ _ _ => k
def at_ : Op → Nat | mk _ a _ _ => a
def words : Op → List Word | mk _ _ w _ => w
def arms : Op → List Arm | mk _ _ _ a => a
end Op
namespace Arm
def kind : Arm → Nat | mk k _ _ => k
def pat : Arm → Word | mk _ p _ => p
def body : Arm → List Op | mk _ _ b => b
end Arm
mutual
def cntO : Op → Nat
  | .mk _ _ _ as => 1 + cntAs as
def cntA : Arm → Nat
  | .mk _ _ b => cntOs b
def cntAs : List Arm → Nat
  | [] => 0
  | a :: r => cntA a + cntAs r
def cntOs : List Op → Nat
  | [] => 0
  | o :: r => cntO o + cntOs r
end
def shiftW (b : Nat) (w : Word) : Word := ⟨w.at_ + b, w.kind, w.parts⟩
def shiftC (b : Nat) (c : Cmd) : Cmd := ⟨c.at_ + b, c.words.map (shiftW b)⟩
/-- The commands of a text that stands at a place. -/
def parseAt (t : List UInt8) (b : Nat) : Except Bad (List Cmd) :=
  match parse t with
  | .error e => .error (if e.2 = 0 then 0 else b + e.1, e.2)
  | .ok cs => .ok (cs.map (shiftC b))
/-- A word's text, if it is one text alone. -/
def oneT (w : Word) : Option (List UInt8) :=
  match w.parts with
  | [p] => if p.var = true ∨ w.kind = 2 then none else some p.s
  | _ => none
def openT (w : Word) : List UInt8 := (w.parts.map (fun p => p.s)).flatten
/-- The kinds of operations by their names, with how many arguments there may be. -/
def formL : List (List UInt8 × Nat × Nat × Nat) :=
  [([115, 101, 116], 0, 2, 2), ([115, 112, 97, 119, 110], 1, 1, 1073741824), ([115, 101, 110, 100], 2, 1, 1), ([101, 120, 112, 101, 99, 116], 3, 1, 1073741824),
   ([109, 97, 116, 99, 104, 95, 109, 97, 120], 4, 1, 1), ([115, 108, 101, 101, 112], 5, 1, 1), ([99, 108, 111, 115, 101], 6, 0, 0), ([101, 120, 105, 116], 7, 0, 1),
   ([101, 120, 112, 95, 99, 111, 110, 116, 105, 110, 117, 101], 8, 0, 0)]
def flagL : List (List UInt8 × Nat) := [([45, 101, 120, 97, 99, 116], 0), ([45, 103, 108, 111, 98], 1), ([116, 105, 109, 101, 111, 117, 116], 2), ([101, 111, 102], 3)]
def look {α : Type} (s : List UInt8) : List (List UInt8 × α) → Option α
  | [] => none
  | p :: r => if s = p.1 then some p.2 else look s r
def formOf (s : List UInt8) : Option (Nat × Nat × Nat) := look s formL
def flagOf (s : List UInt8) : Option Nat := look s flagL
/-- The kind of an arm that a word begins. -/
def flagged (w : Word) : Option Nat :=
  match oneT w with
  | none => none
  | some s => if w.kind = 0 then flagOf s else none
/-- An arm's kind and pattern, and the words behind. -/
def headA (first : Word) (l : List Word) : Except Bad (Nat × Word × List Word) :=
  match flagged first with
  | none => .ok (1, first, l)
  | some k =>
    if k < 2 then match l with
      | [] => .error (first.at_, 2)
      | p :: r => .ok (k, p, r)
    else .ok (k, ⟨0, 0, []⟩, l)
/-- An arm's body, and the words behind. -/
def bodyA (rec : List UInt8 → Nat → Except Bad (List Op)) (l : List Word) : Except Bad (List Op × List Word) :=
  match l with
  | [] => .ok ([], [])
  | w :: r =>
    if w.kind = 2 then match rec (openT w) (w.at_ + 1) with
      | .error b => .error b
      | .ok body => .ok (body, r)
    else .ok ([], w :: r)
def armsGo (rec : List UInt8 → Nat → Except Bad (List Op)) : Nat → List Word → List Arm → Except Bad (List Arm)
  | _, [], acc => .ok acc
  | 0, _ :: _, _ => .error (0, 0)
  | n + 1, first :: l, acc =>
    if acc.length = 64 then .error (first.at_, 10)
    else match headA first l with
      | .error b => .error b
      | .ok (k, p, l2) => match bodyA rec l2 with
        | .error b => .error b
        | .ok (body, l3) => armsGo rec n l3 (acc ++ [.mk k p body])
/-- An expect's words. -/
def argsA (args : List Word) : Except Bad (List Word) :=
  match args with
  | [a] => if a.kind = 2 then match parseAt (openT a) (a.at_ + 1) with
      | .error b => .error b
      | .ok l => .ok (l.map Cmd.words).flatten
    else .ok args
  | _ => .ok args
def cmdOp (rec : List UInt8 → Nat → Except Bad (List Op)) (body : Bool) (c : Cmd) : Except Bad Op :=
  match c.words with
  | [] => .error (0, 0)
  | w0 :: args =>
    match oneT w0 with
    | none => .error (w0.at_, 4)
    | some name =>
      match formOf name with
      | none => .error (c.at_, 8)
      | some (k, lo, hi) =>
        if args.length < lo ∨ hi < args.length then .error (c.at_, 2)
        else if k = 8 ∧ body = false then .error (c.at_, 9)
        else if k ≠ 3 then .ok (.mk k c.at_ args [])
        else match argsA args with
          | .error b => .error b
          | .ok ws => match armsGo rec ws.length ws [] with
            | .error b => .error b
            | .ok [] => .error (c.at_, 2)
            | .ok as => .ok (.mk 3 c.at_ [] as)
def cmdsGo (rec : List UInt8 → Nat → Except Bad (List Op)) (body : Bool) : List Cmd → List Op → Except Bad (List Op)
  | [], acc => .ok acc
  | c :: r, acc => match cmdOp rec body c with
    | .error b => .error b
    | .ok o => cmdsGo rec body r (acc ++ [o])
def script : Nat → List UInt8 → Nat → Bool → Except Bad (List Op)
  | 0, _, _, _ => .error (0, 0)
  | n + 1, t, b, body => match parseAt t b with
    | .error e => .error e
    | .ok cs => cmdsGo (fun t b => script n t b true) body cs []
/-- The operations of a script. -/
def planOf (s : List UInt8) : Except Bad (List Op) := script (s.length + 1) s 0 false
end Plan
end Go.Proofs.Ytnjjbiialpmhbaa
namespace Go.Proofs.Ytnjjbiialpmhbaa
namespace Plan
open Tcl
/-- A word within `m` bytes. -/
def Inn (m : Nat) (w : Word) : Prop := w.at_ < m ∧ (w.kind = 2 → w.at_ + 2 + (openT w).length ≤ m)
theorem word_place {s : List UInt8} {i : Nat} {c : UInt8} {w : Word} {j : Nat} (hc : s[i]? = some c) (h : word s i c = .ok (w, j)) : w.at_ = i ∧ (w.kind = 2 → i + 2 + (openT w).length ≤ j) := by
  unfold word at h
  split at h
  · rename_i h123
    split at h
    · cases h
    · rename_i j' hb
      split at h
      · cases h
      · cases h
        refine ⟨rfl, fun _ => ?_⟩
        rw [braced_some hc, if_neg (by rw [h123]; decide), if_pos h123, if_neg (by decide)] at hb
        have := braced_bound s i (s.length - (i + 1)) (i + 1) (0 + 1) j (Nat.le_refl _) hb
        unfold openT
        simp only
        split
        · simp; omega
        · simp [sub]; omega
  · split at h
    · split at h
      · cases h
      · split at h
        · cases h
        · split at h
          · cases h
          · cases h; exact ⟨rfl, fun h => by simp at h⟩
    · split at h
      · cases h
      · cases h; exact ⟨rfl, fun h => by simp at h⟩
theorem command_places {s : List UInt8} : ∀ (k i : Nat) (ws r : List Word) (j : Nat), s.length - i ≤ k → i ≤ s.length → command s i ws = .ok (r, j) → (∀ w ∈ ws, Inn s.length w) → (∃ r', r = ws ++ r' ∧ r'.length + i ≤ j) ∧ ∀ w ∈ r, Inn s.length w := by
  intro k
  induction k with
  | zero =>
    intro i ws r j hk hi h hw
    have hn : s[i]? = none := List.getElem?_eq_none (by omega)
    rw [command_none hn] at h
    cases h
    exact ⟨⟨[], by simp, by simp⟩, hw⟩
  | succ k ih =>
    intro i ws r j hk hi h hw
    cases hc : s[i]? with
    | none => rw [command_none hc] at h; cases h; exact ⟨⟨[], by simp, by simp⟩, hw⟩
    | some c =>
      have hl := lt_of_some hc
      rw [command_some hc] at h
      split at h
      · cases h; exact ⟨⟨[], by simp, by simp⟩, hw⟩
      · split at h
        · obtain ⟨⟨r', h1, h2⟩, h3⟩ := ih _ _ _ _ (by omega) (by omega) h hw
          exact ⟨⟨r', h1, by omega⟩, h3⟩
        · rename_i he hb
          split at h
          · cases h
          · rename_i w j' hwd
            have hb2 := word_bound hc (by simp [stopB]; exact ⟨by simpa using hb, by simpa using he⟩) hwd
            have hp := word_place hc hwd
            split at h
            · obtain ⟨⟨r', h1, h2⟩, h3⟩ := ih _ _ _ _ (by omega) (by omega) h (fun x hx => by
                rcases List.mem_append.1 hx with hx | hx
                · exact hw x hx
                · simp at hx; subst hx
                  exact ⟨by omega, fun h2 => by have := hp.2 h2; omega⟩)
              refine ⟨⟨w :: r', by rw [h1]; simp, by simp; omega⟩, h3⟩
            · cases h
/-- A command that begins at a word. -/
theorem command_head {s : List UInt8} {i : Nat} {c : UInt8} {r : List Word} {j : Nat} (hc : s[i]? = some c) (hs : stopB c = false) (h : command s i [] = .ok (r, j)) : (∃ w0 r', r = w0 :: r' ∧ w0.at_ = i) ∧ r.length + i ≤ j ∧ ∀ w ∈ r, Inn s.length w := by
  have hl := lt_of_some hc
  obtain ⟨⟨r', h1, h2⟩, h3⟩ := command_places (s.length - i) i [] r j (Nat.le_refl _) (by omega) h (by simp)
  refine ⟨?_, by rw [h1]; simpa using h2, h3⟩
  simp [stopB] at hs
  rw [command_some hc, if_neg (by rw [hs.2]; decide), if_neg (by rw [hs.1]; decide)] at h
  split at h
  · cases h
  · rename_i w j' hwd
    have hp := word_place hc hwd
    have hb2 := word_bound hc (by simp [stopB]; exact hs) hwd
    split at h
    · obtain ⟨⟨r', h1, h2⟩, h3⟩ := command_places (s.length - j') j' [w] r j (Nat.le_refl _) (by omega) h (fun x hx => by
        simp at hx; subst hx
        exact ⟨by omega, fun h2 => by have := hp.2 h2; omega⟩)
      exact ⟨w, r', by rw [h1]; rfl, hp.1⟩
    · cases h
/-- Commands in their order, ahead of `i`. -/
def Row (m i : Nat) (l : List Cmd) : Prop :=
  (∀ c ∈ l, c.at_ < i ∧ (∃ w0 r, c.words = w0 :: r ∧ w0.at_ = c.at_) ∧ ∀ w ∈ c.words, Inn m w) ∧ (∀ (a b : Nat) (c d : Cmd), a < b → l[a]? = some c → l[b]? = some d → c.at_ < d.at_) ∧ (l.map (fun c => c.words.length)).sum ≤ i ∧ l.length ≤ i
theorem Row.mono {m i j : Nat} {l : List Cmd} (h : Row m i l) (hij : i ≤ j) : Row m j l := by
  refine ⟨fun c hc => ?_, h.2.1, by have := h.2.2.1; omega, by have := h.2.2.2; omega⟩
  have := h.1 c hc
  exact ⟨by omega, this.2⟩
theorem Row.snoc {m i j : Nat} {l : List Cmd} {ws : List Word} (h : Row m i l) (hij : i < j) (hw : (∃ w0 r', ws = w0 :: r' ∧ w0.at_ = i) ∧ ws.length + i ≤ j ∧ ∀ w ∈ ws, Inn m w) : Row m j (l ++ [⟨i, ws⟩]) := by
  refine ⟨fun c hc => ?_, fun a b c d hab ha hb => ?_, ?_, ?_⟩
  · rcases List.mem_append.1 hc with hc | hc
    · have := h.1 c hc; exact ⟨by omega, this.2⟩
    · simp at hc; subst hc
      exact ⟨hij, hw.1, hw.2.2⟩
  · have hbl : b < (l ++ [(⟨i, ws⟩ : Cmd)]).length := (List.getElem?_eq_some_iff.1 hb).1
    simp at hbl
    rw [List.getElem?_append_left (by omega)] at ha
    by_cases hbb : b < l.length
    · rw [List.getElem?_append_left hbb] at hb
      exact h.2.1 a b c d hab ha hb
    · rw [List.getElem?_append_right (by omega), show b - l.length = 0 by omega] at hb
      simp at hb; subst hb
      exact (h.1 c (List.mem_of_getElem? ha)).1
  · have := h.2.2.1
    simp only [List.map_append, List.sum_append, List.map_cons, List.map_nil, List.sum_cons, List.sum_nil]
    have := hw.2.1
    omega
  · have := h.2.2.2
    simp; omega
theorem parseGo_places {s : List UInt8} : ∀ (k i : Nat) (l r : List Cmd), s.length - i ≤ k → i ≤ s.length → parseGo s i l = .ok r → Row s.length i l → Row s.length s.length r := by
  intro k
  induction k with
  | zero =>
    intro i l r hk hi h hr
    rw [parse_none (List.getElem?_eq_none (by omega))] at h
    cases h
    exact hr.mono hi
  | succ k ih =>
    intro i l r hk hi h hr
    cases hc : s[i]? with
    | none => rw [parse_none hc] at h; cases h; exact hr.mono hi
    | some c =>
      have hl := lt_of_some hc
      rw [parse_some hc] at h
      split at h
      · exact ih _ _ _ (by omega) (by omega) h (hr.mono (by omega))
      · rename_i hst
        split at h
        · split at h
          · have hll := lineLen_le (s.drop i)
            rw [List.length_drop] at hll
            exact ih _ _ _ (by omega) (by omega) h (hr.mono (by omega))
          · cases h
        · split at h
          · cases h
          · rename_i ws j hcm
            have hb := command_bound s (s.length - i) i [] ws j (Nat.le_refl _) (by omega) hcm
            split at h
            · rename_i hij
              exact ih _ _ _ (by omega) (by omega) h (hr.snoc hij (command_head hc (by simpa using hst) hcm))
            · cases h
theorem parse_row {s : List UInt8} {cs : List Cmd} (h : parse s = .ok cs) : Row s.length s.length cs := by
  unfold parse at h
  split at h
  · cases h
  · exact parseGo_places (s.length - 0) 0 [] cs (Nat.le_refl _) (by omega) h ⟨by simp, by simp, by simp, by simp⟩
end Plan
end Go.Proofs.Ytnjjbiialpmhbaa
namespace Go.Proofs.Ytnjjbiialpmhbaa
namespace Plan
open Tcl
mutual
def shO (d : Nat) : Op → Op
  | .mk k a ws as => .mk k (a + d) (ws.map (shiftW d)) (shAs d as)
def shA (d : Nat) : Arm → Arm
  | .mk k p b => .mk k (if k < 2 then shiftW d p else p) (shOs d b)
def shAs (d : Nat) : List Arm → List Arm
  | [] => []
  | a :: r => shA d a :: shAs d r
def shOs (d : Nat) : List Op → List Op
  | [] => []
  | o :: r => shO d o :: shOs d r
end
theorem shOs_map (d : Nat) : ∀ l, shOs d l = l.map (shO d)
  | [] => by rw [shOs]; rfl
  | o :: r => by rw [shOs, shOs_map d r]; rfl
theorem shAs_map (d : Nat) : ∀ l, shAs d l = l.map (shA d)
  | [] => by rw [shAs]; rfl
  | o :: r => by rw [shAs, shAs_map d r]; rfl
theorem shAs_append (d : Nat) (a b : List Arm) : shAs d (a ++ b) = shAs d a ++ shAs d b := by simp [shAs_map]
theorem shOs_append (d : Nat) (a b : List Op) : shOs d (a ++ b) = shOs d a ++ shOs d b := by simp [shOs_map]
mutual
theorem cntO_sh (d : Nat) : ∀ o, cntO (shO d o) = cntO o
  | .mk k a ws as => by rw [shO, cntO, cntO, cntAs_sh d as]
theorem cntA_sh (d : Nat) : ∀ o, cntA (shA d o) = cntA o
  | .mk k p b => by rw [shA, cntA, cntA, cntOs_sh d b]
theorem cntAs_sh (d : Nat) : ∀ l, cntAs (shAs d l) = cntAs l
  | [] => by rw [shAs]
  | a :: r => by rw [shAs, cntAs, cntAs, cntA_sh d a, cntAs_sh d r]
theorem cntOs_sh (d : Nat) : ∀ l, cntOs (shOs d l) = cntOs l
  | [] => by rw [shOs]
  | a :: r => by rw [shOs, cntOs, cntOs, cntO_sh d a, cntOs_sh d r]
end
theorem cntOs_append (b : List Op) : ∀ a, cntOs (a ++ b) = cntOs a + cntOs b
  | [] => by rw [cntOs]; simp
  | o :: r => by rw [List.cons_append, cntOs, cntOs, cntOs_append b r]; omega
theorem cntOs_len : ∀ l : List Op, l.length ≤ cntOs l
  | [] => by simp
  | .mk k a ws as :: r => by have := cntOs_len r; rw [cntOs, cntO, List.length_cons]; omega
def shB (d : Nat) (b : Bad) : Bad := (if b.2 = 0 then b.1 else b.1 + d, b.2)
def shR {α β : Type} (f : α → β) (d : Nat) : Except Bad α → Except Bad β
  | .error b => .error (shB d b)
  | .ok a => .ok (f a)
theorem shiftW_add (b d : Nat) (w : Word) : shiftW (b + d) w = shiftW d (shiftW b w) := by unfold shiftW; simp [Nat.add_assoc]
theorem shiftC_add (b d : Nat) (c : Cmd) : shiftC (b + d) c = shiftC d (shiftC b c) := by
  unfold shiftC; simp only [List.map_map, Nat.add_assoc]
  congr 1
  exact List.map_congr_left fun w _ => shiftW_add b d w
theorem oneT_sh (d : Nat) (w : Word) : oneT (shiftW d w) = oneT w := rfl
theorem openT_sh (d : Nat) (w : Word) : openT (shiftW d w) = openT w := rfl
theorem flagged_sh (d : Nat) (w : Word) : flagged (shiftW d w) = flagged w := rfl
theorem parseAt_sh (t : List UInt8) (b d : Nat) : parseAt t (b + d) = shR (List.map (shiftC d)) d (parseAt t b) := by
  unfold parseAt
  cases parse t with
  | error e =>
    simp only [shR, shB]
    split <;> simp_all
    omega
  | ok cs =>
    simp only [shR, List.map_map]
    congr 1
    exact List.map_congr_left fun c _ => shiftC_add b d c
theorem headA_sh (d : Nat) (f : Word) (l : List Word) : headA (shiftW d f) (l.map (shiftW d)) = shR (fun x => (x.1, (if x.1 < 2 then shiftW d x.2.1 else x.2.1), x.2.2.map (shiftW d))) d (headA f l) := by
  unfold headA
  rw [flagged_sh]
  cases flagged f with
  | none => rfl
  | some k =>
    simp only
    by_cases hk : k < 2
    · rw [if_pos hk, if_pos hk]
      cases l with
      | nil => rfl
      | cons p r => simp only [List.map_cons, shR, if_pos hk]
    · rw [if_neg hk, if_neg hk]
      simp only [shR, if_neg hk]
theorem bodyA_sh {rec : List UInt8 → Nat → Except Bad (List Op)} {d : Nat} (hrec : ∀ u b, rec u (b + d) = shR (shOs d) d (rec u b)) (l : List Word) : bodyA rec (l.map (shiftW d)) = shR (fun x => (shOs d x.1, x.2.map (shiftW d))) d (bodyA rec l) := by
  unfold bodyA
  cases l with
  | nil => simp only [List.map_nil, shR, shOs]
  | cons w r =>
    simp only [List.map_cons]
    by_cases hk : w.kind = 2
    · rw [if_pos hk, if_pos (show (shiftW d w).kind = 2 from hk), openT_sh, show (shiftW d w).at_ + 1 = w.at_ + 1 + d by simp only [shiftW]; omega, hrec]
      cases rec (openT w) (w.at_ + 1) with
      | error b => rfl
      | ok body => rfl
    · rw [if_neg hk, if_neg (show ¬ (shiftW d w).kind = 2 from hk)]
      simp only [shR, shOs, List.map_cons]
theorem armsGo_sh {rec : List UInt8 → Nat → Except Bad (List Op)} {d : Nat} (hrec : ∀ u b, rec u (b + d) = shR (shOs d) d (rec u b)) : ∀ (n : Nat) (l : List Word) (acc : List Arm),
    armsGo rec n (l.map (shiftW d)) (shAs d acc) = shR (shAs d) d (armsGo rec n l acc) := by
  intro n
  induction n with
  | zero =>
    intro l acc
    cases l with
    | nil => simp only [List.map_nil, armsGo, shR]
    | cons w r => simp only [List.map_cons, armsGo, shR, shB]; rfl
  | succ n ih =>
    intro l acc
    cases l with
    | nil => simp only [List.map_nil, armsGo, shR]
    | cons f l =>
      simp only [List.map_cons, armsGo]
      have hl : (shAs d acc).length = acc.length := by rw [shAs_map, List.length_map]
      rw [hl]
      by_cases h64 : acc.length = 64
      · rw [if_pos h64, if_pos h64]
        simp only [shR, shB, shiftW]; rfl
      · rw [if_neg h64, if_neg h64, headA_sh]
        cases headA f l with
        | error b => rfl
        | ok x =>
          obtain ⟨k, p, l2⟩ := x
          simp only [shR]
          rw [bodyA_sh hrec]
          cases bodyA rec l2 with
          | error b => rfl
          | ok y =>
            obtain ⟨body, l3⟩ := y
            simp only [shR]
            have h := ih l3 (acc ++ [.mk k p body])
            rw [shAs_append] at h
            simp only [shAs, shA] at h
            exact h
theorem argsA_sh (d : Nat) (l : List Word) : argsA (l.map (shiftW d)) = shR (List.map (shiftW d)) d (argsA l) := by
  unfold argsA
  match l with
  | [] => rfl
  | [a] =>
    simp only [List.map_cons, List.map_nil]
    by_cases hk : a.kind = 2
    · rw [if_pos hk, if_pos (show (shiftW d a).kind = 2 from hk), openT_sh, show (shiftW d a).at_ + 1 = a.at_ + 1 + d by simp only [shiftW]; omega, parseAt_sh]
      cases parseAt (openT a) (a.at_ + 1) with
      | error b => rfl
      | ok cs =>
        simp only [shR]
        congr 1
        rw [List.map_map, List.map_flatten, List.map_map]
        rfl
    · rw [if_neg hk, if_neg (show ¬ (shiftW d a).kind = 2 from hk)]
      rfl
  | a :: b :: r => rfl
theorem cmdOp_sh {rec : List UInt8 → Nat → Except Bad (List Op)} {d : Nat} (hrec : ∀ u b, rec u (b + d) = shR (shOs d) d (rec u b)) (body : Bool) (c : Cmd) : cmdOp rec body (shiftC d c) = shR (shO d) d (cmdOp rec body c) := by
  obtain ⟨at_, ws⟩ := c
  unfold cmdOp shiftC
  simp only
  cases ws with
  | nil => simp only [List.map_nil, shR, shB]; rfl
  | cons w0 args =>
    simp only [List.map_cons, oneT_sh]
    cases oneT w0 with
    | none => simp only [shR, shB, shiftW]; rfl
    | some name =>
      simp only
      cases formOf name with
      | none => simp only [shR, shB]; rfl
      | some x =>
        obtain ⟨k, lo, hi⟩ := x
        simp only [List.length_map]
        split
        · simp only [shR, shB]; rfl
        · split
          · simp only [shR, shB]; rfl
          · split
            · simp only [shR, shO, shAs]
            · rw [argsA_sh]
              cases argsA args with
              | error b => rfl
              | ok ws =>
                simp only [shR, List.length_map]
                have h := armsGo_sh hrec ws.length ws []
                rw [show shAs d [] = [] by rw [shAs]] at h
                rw [h]
                cases armsGo rec ws.length ws [] with
                | error b => rfl
                | ok as =>
                  cases as with
                  | nil => simp only [shR, shAs, shB]; rfl
                  | cons a as => simp only [shR, shAs, shO, List.map_nil]
theorem cmdsGo_sh {rec : List UInt8 → Nat → Except Bad (List Op)} {d : Nat} (hrec : ∀ u b, rec u (b + d) = shR (shOs d) d (rec u b)) (body : Bool) : ∀ (cs : List Cmd) (acc : List Op),
    cmdsGo rec body (cs.map (shiftC d)) (shOs d acc) = shR (shOs d) d (cmdsGo rec body cs acc) := by
  intro cs
  induction cs with
  | nil => intro acc; rfl
  | cons c r ih =>
    intro acc
    simp only [List.map_cons, cmdsGo]
    rw [cmdOp_sh hrec]
    cases cmdOp rec body c with
    | error b => rfl
    | ok o =>
      simp only [shR]
      have h := ih (acc ++ [o])
      rw [shOs_append] at h
      simp only [shOs] at h
      exact h
theorem script_sh (d : Nat) : ∀ (n : Nat) (t : List UInt8) (b : Nat) (body : Bool), script n t (b + d) body = shR (shOs d) d (script n t b body) := by
  intro n
  induction n with
  | zero => intro t b body; simp only [script, shR, shB]; rfl
  | succ n ih =>
    intro t b body
    simp only [script]
    rw [parseAt_sh]
    cases parseAt t b with
    | error e => rfl
    | ok cs =>
      simp only [shR]
      have h := cmdsGo_sh (rec := fun t b => script n t b true) (d := d) (fun u b => ih u b true) body cs []
      rw [show shOs d [] = [] by rw [shOs]] at h
      rw [h]
      rfl
/-! ### more rounds -/
/-- The words' inner texts are shorter than `L`. -/
def Under (L : Nat) (ws : List Word) : Prop := ∀ w ∈ ws, w.kind = 2 → (openT w).length < L
section
variable {rec rec' : List UInt8 → Nat → Except Bad (List Op)} {L : Nat}
theorem bodyA_ag (h : ∀ u b, u.length < L → rec u b = rec' u b) {l : List Word} (hu : Under L l) : bodyA rec l = bodyA rec' l := by
  unfold bodyA
  cases l with
  | nil => rfl
  | cons w r =>
    simp only
    by_cases hk : w.kind = 2
    · rw [if_pos hk, if_pos hk, h _ _ (hu w (by simp) hk)]
    · rw [if_neg hk, if_neg hk]
theorem headA_under {L : Nat} {f : Word} {l l2 : List Word} {k : Nat} {p : Word} (hu : Under L l) (h : headA f l = .ok (k, p, l2)) : Under L l2 := by
  unfold headA at h
  split at h
  · cases h; exact hu
  · split at h
    · split at h
      · cases h
      · cases h; exact fun w hw => hu w (by simp [hw])
    · cases h; exact hu
theorem bodyA_under {rec : List UInt8 → Nat → Except Bad (List Op)} {L : Nat} {l l3 : List Word} {b : List Op} (hu : Under L l) (h : bodyA rec l = .ok (b, l3)) : Under L l3 := by
  unfold bodyA at h
  split at h
  · cases h; exact hu
  · split at h
    · split at h
      · cases h
      · cases h; exact fun w hw => hu w (by simp [hw])
    · cases h; exact hu
theorem armsGo_ag (h : ∀ u b, u.length < L → rec u b = rec' u b) : ∀ (n : Nat) (l : List Word) (acc : List Arm), Under L l → armsGo rec n l acc = armsGo rec' n l acc := by
  intro n
  induction n with
  | zero => intro l acc hu; cases l <;> rfl
  | succ n ih =>
    intro l acc hu
    cases l with
    | nil => rfl
    | cons f l =>
      have hu2 : Under L l := fun w hw => hu w (by simp [hw])
      simp only [armsGo]
      split
      · rfl
      · cases hh : headA f l with
        | error b => rfl
        | ok x =>
          obtain ⟨k, p, l2⟩ := x
          simp only
          have hu3 := headA_under hu2 hh
          rw [← bodyA_ag h hu3]
          cases hb : bodyA rec l2 with
          | error b => rfl
          | ok y =>
            obtain ⟨b, l3⟩ := y
            exact ih _ _ (bodyA_under hu3 hb)
theorem parseAt_under {t : List UInt8} {b : Nat} {cs : List Cmd} (h : parseAt t b = .ok cs) : ∀ c ∈ cs, Under t.length c.words := by
  unfold parseAt at h
  split at h
  · cases h
  · rename_i l hp
    cases h
    intro c hc w hw hk
    obtain ⟨c0, h0, rfl⟩ := List.mem_map.1 hc
    obtain ⟨w0, h1, rfl⟩ := List.mem_map.1 hw
    have := ((parse_row hp).1 c0 h0).2.2 w0 h1
    have := this.2 hk
    rw [openT_sh]; omega
theorem argsA_under {args ws : List Word} (hu : Under L args) (h : argsA args = .ok ws) : Under L ws := by
  unfold argsA at h
  split at h
  · rename_i a
    split at h
    · rename_i hk
      split at h
      · cases h
      · rename_i l hp
        cases h
        intro w hw hk2
        obtain ⟨ws, h1, h2⟩ := List.mem_flatten.1 hw
        obtain ⟨c, h3, rfl⟩ := List.mem_map.1 h1
        have := parseAt_under hp c h3 w h2 hk2
        have := hu a (by simp) hk
        omega
    · cases h; exact hu
  · cases h; exact hu
theorem cmdOp_ag (h : ∀ u b, u.length < L → rec u b = rec' u b) (body : Bool) {c : Cmd} (hu : Under L c.words) : cmdOp rec body c = cmdOp rec' body c := by
  unfold cmdOp
  split
  · rfl
  · rename_i w0 args hws
    have hu2 : Under L args := fun w hw => hu w (by rw [hws]; simp [hw])
    split
    · rfl
    · split
      · rfl
      · split
        · rfl
        · split
          · rfl
          · split
            · rfl
            · cases ha : argsA args with
              | error b => rfl
              | ok ws => simp only; rw [armsGo_ag h _ _ _ (argsA_under hu2 ha)]
theorem cmdsGo_ag (h : ∀ u b, u.length < L → rec u b = rec' u b) (body : Bool) : ∀ (cs : List Cmd) (acc : List Op), (∀ c ∈ cs, Under L c.words) → cmdsGo rec body cs acc = cmdsGo rec' body cs acc := by
  intro cs
  induction cs with
  | nil => intro acc _; rfl
  | cons c r ih =>
    intro acc hu
    simp only [cmdsGo]
    rw [cmdOp_ag h body (hu c (by simp))]
    cases cmdOp rec' body c with
    | error b => rfl
    | ok o => exact ih _ (fun c hc => hu c (by simp [hc]))
end
theorem script_fuel : ∀ (n m : Nat) (t : List UInt8) (b : Nat) (body : Bool), t.length < n → t.length < m → script n t b body = script m t b body := by
  intro n
  induction n with
  | zero => intro m t b body h; omega
  | succ n ih =>
    intro m t b body h1 h2
    cases m with
    | zero => omega
    | succ m =>
      simp only [script]
      cases hp : parseAt t b with
      | error e => rfl
      | ok cs => exact cmdsGo_ag (L := t.length) (fun u b hu => ih m u b true (by omega) (by omega)) body cs [] (parseAt_under hp)
theorem cmdsGo_append (rec : List UInt8 → Nat → Except Bad (List Op)) (body : Bool) (b : List Cmd) : ∀ (a : List Cmd) (acc : List Op), cmdsGo rec body (a ++ b) acc = match cmdsGo rec body a acc with | .error e => .error e | .ok l => cmdsGo rec body b l := by
  intro a
  induction a with
  | nil => intro acc; rfl
  | cons c r ih =>
    intro acc
    simp only [List.cons_append, cmdsGo]
    cases cmdOp rec body c with
    | error e => rfl
    | ok o => exact ih _
theorem cmdsGo_acc (rec : List UInt8 → Nat → Except Bad (List Op)) (body : Bool) : ∀ (a : List Cmd) (acc : List Op), cmdsGo rec body a acc = match cmdsGo rec body a [] with | .error e => .error e | .ok l => .ok (acc ++ l) := by
  intro a
  induction a with
  | nil => intro acc; simp [cmdsGo]
  | cons c r ih =>
    intro acc
    simp only [cmdsGo]
    cases cmdOp rec body c with
    | error e => rfl
    | ok o =>
      simp only
      rw [ih (acc ++ [o]), ih ([] ++ [o])]
      cases cmdsGo rec body r [] with
      | error e => rfl
      | ok l => simp
end Plan
end Go.Proofs.Ytnjjbiialpmhbaa
namespace Go.Proofs.Ytnjjbiialpmhbaa
namespace Tcl
/-- From `n` on stands `s`, and behind it nothing, or a line's end. -/
def In (U s : List UInt8) (n : Nat) : Prop := ∃ tl, U.drop n = s ++ tl ∧ (tl = [] ∨ ∃ t, tl = 10 :: t)
def shW (n : Nat) (w : Word) : Word := ⟨n + w.at_, w.kind, w.parts⟩
def shC (n : Nat) (c : Cmd) : Cmd := ⟨n + c.at_, c.words.map (shW n)⟩
theorem In.at {U s : List UInt8} {n i : Nat} {c : UInt8} (h : In U s n) (hc : s[i]? = some c) : U[n + i]? = some c := by
  obtain ⟨tl, h1, -⟩ := h
  rw [← List.getElem?_drop, h1, List.getElem?_append_left (lt_of_some hc), hc]
theorem In.end {U s : List UInt8} {n i : Nat} (h : In U s n) (hi : i = s.length) : U[n + i]? = none ∨ U[n + i]? = some 10 := by
  obtain ⟨tl, h1, h2⟩ := h
  subst hi
  rw [← List.getElem?_drop, h1, List.getElem?_append_right (Nat.le_refl _), Nat.sub_self]
  rcases h2 with rfl | ⟨t, rfl⟩
  · exact .inl rfl
  · exact .inr rfl
theorem In.drop {U s : List UInt8} {n i : Nat} (h : In U s n) (hi : i ≤ s.length) : In U (s.drop i) (n + i) := by
  obtain ⟨tl, h1, h2⟩ := h
  refine ⟨tl, ?_, h2⟩
  rw [← List.drop_drop, h1, List.drop_append_of_le_length hi]
theorem none_of {s : List UInt8} {i : Nat} (h : s.length ≤ i) : s[i]? = none := List.getElem?_eq_none h
theorem some_or {s : List UInt8} (i : Nat) : (∃ c, s[i]? = some c ∧ i < s.length) ∨ (s[i]? = none ∧ s.length ≤ i) := by
  cases h : s[i]? with
  | some c => exact .inl ⟨c, rfl, lt_of_some h⟩
  | none => exact .inr ⟨rfl, by simpa using h⟩
theorem in_braced {U s : List UInt8} {n : Nat} (h : In U s n) (f f' : Nat) : ∀ (k i d j : Nat), s.length - i ≤ k → braced s f i d = .ok j → braced U f' (n + i) d = .ok (n + j) := by
  intro k
  induction k with
  | zero =>
    intro i d j hk hb
    rw [braced_none (none_of (by omega))] at hb; cases hb
  | succ k ih =>
    intro i d j hk hb
    rcases some_or (s := s) i with ⟨c, hc, hi⟩ | ⟨hc, -⟩
    · rw [braced_some hc] at hb
      rw [braced_some (h.at hc)]
      by_cases h1 : c = 92
      · rw [if_pos h1] at hb ⊢; exact ih (i + 2) d j (by omega) hb
      rw [if_neg h1] at hb ⊢
      by_cases h2 : c = 123
      · rw [if_pos h2] at hb ⊢
        by_cases h3 : d + 1 > 64
        · rw [if_pos h3] at hb; cases hb
        · rw [if_neg h3] at hb ⊢; exact ih (i + 1) _ j (by omega) hb
      rw [if_neg h2] at hb ⊢
      by_cases h3 : c = 125
      · rw [if_pos h3] at hb ⊢
        by_cases h4 : d > 1
        · rw [if_pos h4] at hb ⊢; exact ih (i + 1) _ j (by omega) hb
        · rw [if_neg h4] at hb ⊢; cases hb; rfl
      · rw [if_neg h3] at hb ⊢; exact ih (i + 1) d j (by omega) hb
    · rw [braced_none hc] at hb; cases hb
theorem in_octals {U s : List UInt8} {n : Nat} (h : In U s n) : ∀ (m i x : Nat), i ≤ s.length → octals U (n + i) m x = ((octals s i m x).1, n + (octals s i m x).2) := by
  intro m
  induction m with
  | zero => intro i x _; rfl
  | succ m ih =>
    intro i x hi
    rcases some_or (s := s) i with ⟨c, hc, hi⟩ | ⟨hc, hi2⟩
    · rw [octals, octals, hc, h.at hc]
      simp only
      split
      · exact ih (i + 1) _ (by omega)
      · rfl
    · rw [octals, octals, hc]
      rcases h.end (i := i) (by omega) with e | e <;> rw [e] <;> rfl
theorem in_esc {U s : List UInt8} {n i : Nat} (h : In U s n) {x : UInt8} {j : Nat} (he : esc s i = some (x, j)) : esc U (n + i) = some (x, n + j) := by
  unfold esc at he ⊢
  rcases some_or (s := s) (i + 1) with ⟨c, hc, hi⟩ | ⟨hc, -⟩
  · rw [hc] at he
    rw [show n + i + 1 = n + (i + 1) by omega, h.at hc]
    simp only at he ⊢
    rw [in_octals h 3 (i + 1) 0 (by omega)]
    split at he
    · rename_i ho
      rw [if_pos ho]
      simp only [Option.some.injEq, Prod.mk.injEq] at he ⊢
      exact ⟨he.1, by rw [he.2]⟩
    · rename_i ho
      rw [if_neg ho]
      simp only [Option.some.injEq, Prod.mk.injEq] at he ⊢
      exact ⟨he.1, by omega⟩
  · rw [hc] at he; cases he
theorem nameLen_in (s tl : List UInt8) (h : tl = [] ∨ ∃ t, tl = 10 :: t) : nameLen (s ++ tl) = nameLen s := by
  induction s with
  | nil => rcases h with rfl | ⟨t, rfl⟩ <;> rfl
  | cons c s ih => simp only [List.cons_append, nameLen, ih]
theorem lineLen_in (s tl : List UInt8) (h : tl = [] ∨ ∃ t, tl = 10 :: t) : lineLen (s ++ tl) = lineLen s := by
  induction s with
  | nil => rcases h with rfl | ⟨t, rfl⟩ <;> rfl
  | cons c s ih => simp only [List.cons_append, lineLen, ih]
theorem in_name {U s : List UInt8} {n i : Nat} (h : In U s n) (hi : i ≤ s.length) : nameLen (U.drop (n + i)) = nameLen (s.drop i) := by
  obtain ⟨tl, h1, h2⟩ := h.drop hi
  rw [h1, nameLen_in _ _ h2]
theorem in_line {U s : List UInt8} {n i : Nat} (h : In U s n) (hi : i ≤ s.length) : lineLen (U.drop (n + i)) = lineLen (s.drop i) := by
  obtain ⟨tl, h1, h2⟩ := h.drop hi
  rw [h1, lineLen_in _ _ h2]
theorem in_take {U s : List UInt8} {n i m : Nat} (h : In U s n) (hi : i ≤ s.length) (hm : m ≤ s.length - i) : (U.drop (n + i)).take m = (s.drop i).take m := by
  obtain ⟨tl, h1, h2⟩ := h.drop hi
  rw [h1, List.take_append_of_le_length (by rw [List.length_drop]; exact hm)]
theorem in_sub {U s : List UInt8} {n a b : Nat} (h : In U s n) (hb : b ≤ s.length) : sub U (n + a) (n + b) = sub s a b := by
  obtain ⟨tl, h1, h2⟩ := h
  unfold sub
  rw [← List.drop_drop, ← List.take_drop, h1, List.take_append_of_le_length hb]
theorem in_parts {U s : List UInt8} {n : Nat} (h : In U s n) (stop : UInt8 → Bool) (f f' : Option Nat) : ∀ (k i : Nat) (l : List Part) (t : List UInt8) (r : List Part) (j : Nat), s.length - i ≤ k → i ≤ s.length → partsGo stop s f i l t = .ok (r, j) → (stop 10 = true ∨ j < s.length) →
    partsGo stop U f' (n + i) l t = .ok (r, n + j) := by
  intro k
  induction k with
  | zero =>
    intro i l t r j hk hi hp hs
    obtain rfl : i = s.length := by omega
    rw [parts_none (none_of (Nat.le_refl _))] at hp
    cases hp
    rcases hs with hs | hs
    · rcases h.end rfl with e | e
      · rw [parts_none e]
      · rw [parts_some e, if_pos hs]
    · omega
  | succ k ih =>
    intro i l t r j hk hi hp hs
    rcases some_or (s := s) i with ⟨c, hc, hi'⟩ | ⟨hc, hi'⟩
    · rw [parts_some hc] at hp
      rw [parts_some (h.at hc)]
      by_cases h1 : stop c = true
      · rw [if_pos h1] at hp ⊢; cases hp; rfl
      rw [if_neg h1] at hp ⊢
      by_cases h2 : c = 91
      · rw [if_pos h2] at hp; cases hp
      rw [if_neg h2] at hp ⊢
      by_cases h3 : c = 92
      · rw [if_pos h3] at hp ⊢
        cases he : esc s i with
        | none => rw [he] at hp; cases hp
        | some p =>
          obtain ⟨x, j'⟩ := p
          have hb := esc_bound he
          rw [he] at hp
          rw [in_esc h he]
          simp only at hp ⊢
          rw [if_pos (by omega)] at hp
          rw [if_pos (by omega)]
          exact ih j' l _ r j (by omega) (by omega) hp hs
      rw [if_neg h3] at hp ⊢
      by_cases h4 : c = 36
      · rw [if_pos h4] at hp ⊢
        rw [show n + i + 1 = n + (i + 1) by omega, in_name h (by omega)]
        have hle := nameLen_le (s.drop (i + 1))
        rw [List.length_drop] at hle
        rw [in_take h (by omega) hle]
        by_cases h5 : 64 < nameLen (s.drop (i + 1))
        · rw [if_pos h5] at hp; cases hp
        rw [if_neg h5] at hp ⊢
        by_cases h6 : nameLen (s.drop (i + 1)) = 0
        · rw [if_pos h6] at hp ⊢; exact ih (i + 1) l _ r j (by omega) (by omega) hp hs
        · rw [if_neg h6] at hp ⊢
          rw [show n + (i + 1) + nameLen (s.drop (i + 1)) = n + (i + 1 + nameLen (s.drop (i + 1))) by omega]
          exact ih _ _ _ r j (by omega) (by omega) hp hs
      · rw [if_neg h4] at hp ⊢; exact ih (i + 1) l _ r j (by omega) (by omega) hp hs
    · obtain rfl : i = s.length := by omega
      rw [parts_none hc] at hp
      cases hp
      rcases hs with hs | hs
      · rcases h.end rfl with e | e
        · rw [parts_none e]
        · rw [parts_some e, if_pos hs]
      · omega
theorem in_behind {U s : List UInt8} {n j : Nat} (h : In U s n) (hj : j ≤ s.length) (hb : behind s j = .ok ()) : behind U (n + j) = .ok () := by
  rcases some_or (s := s) j with ⟨c, hc, hi⟩ | ⟨hc, hi⟩
  · cases hst : stopB c with
    | true => exact behind_ok (h.at hc) hst
    | false => rw [behind_bad hc hst] at hb; cases hb
  · rcases h.end (i := j) (by omega) with e | e
    · unfold behind; rw [e]
    · exact behind_ok e (by decide)
theorem in_word {U s : List UInt8} {n i : Nat} {c : UInt8} (h : In U s n) (hc : s[i]? = some c) {w : Word} {j : Nat} (hw : word s i c = .ok (w, j)) : word U (n + i) c = .ok (shW n w, n + j) := by
  have hil := lt_of_some hc
  unfold word at hw
  by_cases h1 : c = 123
  · subst h1
    rw [if_pos rfl] at hw
    cases hb : braced s i i 0 with
    | error b => rw [hb] at hw; cases hw
    | ok j' =>
      rw [hb] at hw
      simp only at hw
      have hbd := braced_bound s i (s.length - i) i 0 j' (Nat.le_refl _) hb
      cases hh : behind s j' with
      | error b => rw [hh] at hw; cases hw
      | ok u =>
        rw [hh] at hw
        simp only [Except.ok.injEq, Prod.mk.injEq] at hw
        obtain ⟨rfl, rfl⟩ := hw
        rw [word_b_ok (in_braced h i (n + i) (s.length - i) i 0 j' (Nat.le_refl _) hb) (in_behind h hbd.2 hh)]
        simp only [shW, Except.ok.injEq, Prod.mk.injEq, and_true, Word.mk.injEq, true_and]
        by_cases h2 : j' = i + 2
        · rw [if_pos h2, if_pos (by omega)]
        · rw [if_neg h2, if_neg (by omega), show n + i + 1 = n + (i + 1) by omega, show n + j' - 1 = n + (j' - 1) by omega, in_sub h (by omega)]
  rw [if_neg h1] at hw
  by_cases h2 : c = 34
  · subst h2
    rw [if_pos rfl] at hw
    cases hp : partsGo quoteB s (some i) (i + 1) [] [] with
    | error b => rw [hp] at hw; cases hw
    | ok p =>
      obtain ⟨ps, j'⟩ := p
      rw [hp] at hw
      simp only at hw
      have hbd := parts_bound quoteB s (some i) (s.length - (i + 1)) (i + 1) [] [] ps j' (Nat.le_refl _) (by omega) hp
      by_cases h3 : j' = s.length
      · rw [if_pos h3] at hw; cases hw
      rw [if_neg h3] at hw
      cases hh : behind s (j' + 1) with
      | error b => rw [hh] at hw; cases hw
      | ok u =>
        rw [hh] at hw
        simp only [Except.ok.injEq, Prod.mk.injEq] at hw
        obtain ⟨rfl, rfl⟩ := hw
        have hU : n + j' ≠ U.length := by
          intro e
          have := lt_of_some (h.at (List.getElem?_eq_getElem (show j' < s.length by omega)))
          omega
        exact word_q_ok (in_parts h quoteB (some i) (some (n + i)) (s.length - (i + 1)) (i + 1) [] [] ps j' (Nat.le_refl _) (by omega) hp (.inr (by omega))) hU (in_behind (j := j' + 1) h (by omega) hh)
  · rw [if_neg h2] at hw
    cases hp : partsGo stopB s none i [] [] with
    | error b => rw [hp] at hw; cases hw
    | ok p =>
      obtain ⟨ps, j'⟩ := p
      rw [hp] at hw
      simp only [Except.ok.injEq, Prod.mk.injEq] at hw
      obtain ⟨rfl, rfl⟩ := hw
      exact word_bare_ok h1 h2 (in_parts h stopB none none (s.length - i) i [] [] ps j' (Nat.le_refl _) (by omega) hp (.inl (by decide)))
theorem in_command {U s : List UInt8} {n : Nat} (h : In U s n) : ∀ (k i : Nat) (ws r : List Word) (j : Nat), s.length - i ≤ k → i ≤ s.length → command s i ws = .ok (r, j) → command U (n + i) (ws.map (shW n)) = .ok (r.map (shW n), n + j) := by
  intro k
  induction k with
  | zero =>
    intro i ws r j hk hi hp
    obtain rfl : i = s.length := by omega
    rw [command_none (none_of (Nat.le_refl _))] at hp
    cases hp
    rcases h.end rfl with e | e
    · rw [command_none e]
    · rw [command_some e, if_pos (by decide)]
  | succ k ih =>
    intro i ws r j hk hi hp
    rcases some_or (s := s) i with ⟨c, hc, hi'⟩ | ⟨hc, hi'⟩
    · rw [command_some hc] at hp
      rw [command_some (h.at hc)]
      by_cases h1 : endB c = true
      · rw [if_pos h1] at hp ⊢; cases hp; rfl
      rw [if_neg h1] at hp ⊢
      by_cases h2 : blankB c = true
      · rw [if_pos h2] at hp ⊢; exact ih (i + 1) ws r j (by omega) (by omega) hp
      rw [if_neg h2] at hp ⊢
      cases hw : word s i c with
      | error b => rw [hw] at hp; cases hp
      | ok p =>
        obtain ⟨w, j'⟩ := p
        have hst : stopB c = false := by simp [stopB, h1, h2]
        have hbd := word_bound hc hst hw
        rw [hw] at hp
        rw [in_word h hc hw]
        simp only at hp ⊢
        rw [if_pos hbd.1] at hp
        rw [if_pos (by omega)]
        have := ih j' (ws ++ [w]) r j (by omega) (by omega) hp
        rw [List.map_append] at this
        exact this
    · obtain rfl : i = s.length := by omega
      rw [command_none hc] at hp
      cases hp
      rcases h.end rfl with e | e
      · rw [command_none e]
      · rw [command_some e, if_pos (by decide)]
theorem in_parse {U s : List UInt8} {n : Nat} (h : In U s n) (L : List Cmd) : ∀ (k i : Nat) (l r : List Cmd), s.length - i ≤ k → i ≤ s.length → parseGo s i l = .ok r → parseGo U (n + i) (L ++ l.map (shC n)) = parseGo U (n + s.length) (L ++ r.map (shC n)) := by
  intro k
  induction k with
  | zero =>
    intro i l r hk hi hp
    obtain rfl : i = s.length := by omega
    rw [parse_none (none_of (Nat.le_refl _))] at hp
    cases hp; rfl
  | succ k ih =>
    intro i l r hk hi hp
    rcases some_or (s := s) i with ⟨c, hc, hi'⟩ | ⟨hc, hi'⟩
    · rw [parse_some hc] at hp
      rw [parse_some (h.at hc)]
      by_cases h1 : stopB c = true
      · rw [if_pos h1] at hp ⊢; exact ih (i + 1) l r (by omega) (by omega) hp
      rw [if_neg h1] at hp ⊢
      by_cases h2 : c = 35
      · rw [if_pos h2] at hp ⊢
        rw [in_line h (by omega)]
        have hle := lineLen_le (s.drop i)
        rw [List.length_drop] at hle
        by_cases h3 : 0 < lineLen (s.drop i)
        · rw [if_pos h3] at hp ⊢
          rw [show n + i + lineLen (s.drop i) = n + (i + lineLen (s.drop i)) by omega]
          exact ih _ l r (by omega) (by omega) hp
        · rw [if_neg h3] at hp; cases hp
      rw [if_neg h2] at hp ⊢
      cases hw : command s i [] with
      | error b => rw [hw] at hp; cases hp
      | ok p =>
        obtain ⟨ws, j'⟩ := p
        have hend : endB c = false := by simp [stopB] at h1; exact h1.2
        have hbd := command_bound s (s.length - i) i [] ws j' (Nat.le_refl _) (by omega) hw
        have hm := command_more hc hend hw
        rw [hw] at hp
        have hU := in_command h (s.length - i) i [] ws j' (Nat.le_refl _) (by omega) hw
        rw [List.map_nil] at hU
        rw [hU]
        simp only at hp ⊢
        rw [if_pos hm] at hp
        rw [if_pos (by omega)]
        have := ih j' (l ++ [⟨i, ws⟩]) r (by omega) (by omega) hp
        rw [List.map_append, ← List.append_assoc] at this
        exact this
    · obtain rfl : i = s.length := by omega
      rw [parse_none hc] at hp
      cases hp; rfl
theorem shW_zero (w : Word) : shW 0 w = w := by unfold shW; rw [Nat.zero_add]
theorem shC_zero (c : Cmd) : shC 0 c = c := by
  unfold shC; rw [Nat.zero_add, show shW 0 = id from funext shW_zero, List.map_id]
/-- Two texts with a line's end between. -/
theorem joins {s t : List UInt8} {A B : List Cmd} (hs : parseGo s 0 [] = .ok A) (ht : parseGo t 0 [] = .ok B) : parseGo (s ++ 10 :: t) 0 [] = .ok (A ++ B.map (shC (s.length + 1))) := by
  have h1 : In (s ++ 10 :: t) s 0 := ⟨10 :: t, rfl, .inr ⟨t, rfl⟩⟩
  have h2 : In (s ++ 10 :: t) t (s.length + 1) := ⟨[], by rw [List.append_nil, List.drop_append, List.drop_eq_nil_of_le (by omega)]; simp, .inl rfl⟩
  have e1 := in_parse h1 [] s.length 0 [] A (by omega) (by omega) hs
  have e2 := in_parse h2 A t.length 0 [] B (by omega) (by omega) ht
  rw [show shC 0 = id from funext shC_zero, List.map_nil, List.map_id, List.nil_append, List.nil_append, Nat.zero_add, Nat.zero_add] at e1
  rw [List.map_nil, List.append_nil, Nat.add_zero] at e2
  have h10 : (s ++ 10 :: t)[s.length]? = some 10 := by rw [List.getElem?_append_right (Nat.le_refl _), Nat.sub_self]; rfl
  rw [e1, parse_some h10, if_pos (by decide), e2, parse_none (none_of (by simp; omega))]
/-- A command's place lies in the text. -/
theorem parse_places (s : List UInt8) : ∀ (k i : Nat) (l r : List Cmd), s.length - i ≤ k → (∀ c ∈ l, c.at_ < s.length) → parseGo s i l = .ok r → ∀ c ∈ r, c.at_ < s.length := by
  intro k
  induction k with
  | zero =>
    intro i l r hk hl hp
    rw [parse_none (none_of (by omega))] at hp
    cases hp; exact hl
  | succ k ih =>
    intro i l r hk hl hp
    rcases some_or (s := s) i with ⟨c, hc, hi'⟩ | ⟨hc, hi'⟩
    · rw [parse_some hc] at hp
      by_cases h1 : stopB c = true
      · rw [if_pos h1] at hp; exact ih (i + 1) l r (by omega) hl hp
      rw [if_neg h1] at hp
      by_cases h2 : c = 35
      · rw [if_pos h2] at hp
        by_cases h3 : 0 < lineLen (s.drop i)
        · rw [if_pos h3] at hp; exact ih _ l r (by omega) hl hp
        · rw [if_neg h3] at hp; cases hp
      rw [if_neg h2] at hp
      cases hw : command s i [] with
      | error b => rw [hw] at hp; cases hp
      | ok p =>
        obtain ⟨ws, j'⟩ := p
        rw [hw] at hp
        simp only at hp
        by_cases h3 : i < j'
        · rw [if_pos h3] at hp
          refine ih j' _ r (by omega) (fun c hc => ?_) hp
          rcases List.mem_append.1 hc with hc | hc
          · exact hl c hc
          · simp at hc; subst hc; exact hi'
        · rw [if_neg h3] at hp; cases hp
    · rw [parse_none hc] at hp
      cases hp; exact hl
end Tcl
end Go.Proofs.Ytnjjbiialpmhbaa
namespace Go.Proofs.Ytnjjbiialpmhbaa
namespace Plan
open Tcl
theorem shC_shift (n : Nat) (c : Cmd) : shC n c = shiftC n c := by
  unfold shC shiftC
  congr 1
  · exact Nat.add_comm _ _
  · exact List.map_congr_left fun w _ => by unfold shW shiftW; rw [Nat.add_comm]
theorem shiftC_zero (c : Cmd) : shiftC 0 c = c := by
  obtain ⟨a, ws⟩ := c
  unfold shiftC
  simp only [Nat.add_zero]
  congr 1
  exact (List.map_congr_left fun w _ => by unfold shiftW; simp).trans (List.map_id ws)
theorem parseAt_zero (t : List UInt8) : parseAt t 0 = match parse t with | .error e => .error (if e.2 = 0 then 0 else e.1, e.2) | .ok cs => .ok cs := by
  unfold parseAt
  cases parse t with
  | error e => simp
  | ok cs => exact congrArg Except.ok ((List.map_congr_left fun c _ => shiftC_zero c).trans (List.map_id cs))
theorem plan_ok {s : List UInt8} {a : List Op} (h : planOf s = .ok a) : ∃ cs, parse s = .ok cs ∧ cmdsGo (fun t b => script s.length t b true) false cs [] = .ok a := by
  unfold planOf at h
  simp only [script] at h
  rw [parseAt_zero] at h
  cases hp : parse s with
  | error e => rw [hp] at h; cases h
  | ok cs => rw [hp] at h; exact ⟨cs, rfl, h⟩
theorem cmds_len {rec : List UInt8 → Nat → Except Bad (List Op)} {body : Bool} : ∀ {cs : List Cmd} {acc a : List Op}, cmdsGo rec body cs acc = .ok a → a.length = acc.length + cs.length := by
  intro cs
  induction cs with
  | nil => intro acc a h; simp only [cmdsGo] at h; cases h; simp
  | cons c r ih =>
    intro acc a h
    simp only [cmdsGo] at h
    split at h
    · cases h
    · rw [ih h]; simp; omega
theorem plan_joins {s t : List UInt8} {a b : List Op} (hl : s.length + 1 + t.length ≤ 16777216) (hs : planOf s = .ok a) (ht : planOf t = .ok b) : planOf (s ++ 10 :: t) = .ok (a ++ shOs (s.length + 1) b) := by
  obtain ⟨A, hA, h1⟩ := plan_ok hs
  obtain ⟨B, hB, h2⟩ := plan_ok ht
  have gA : parseGo s 0 [] = .ok A := by unfold parse at hA; rw [if_neg (by omega)] at hA; exact hA
  have gB : parseGo t 0 [] = .ok B := by unfold parse at hB; rw [if_neg (by omega)] at hB; exact hB
  have hJ := joins gA gB
  have hlen : (s ++ 10 :: t).length = s.length + 1 + t.length := by simp; omega
  have hP : parse (s ++ 10 :: t) = .ok (A ++ B.map (shiftC (s.length + 1))) := by
    unfold parse
    rw [if_neg (by omega), hJ]
    congr 2
    exact List.map_congr_left fun c _ => shC_shift _ c
  unfold planOf
  simp only [script]
  rw [parseAt_zero, hP]
  simp only
  rw [cmdsGo_append]
  have rA := parse_row hA
  have rB := parse_row hB
  have e1 : cmdsGo (fun u b => script (s ++ 10 :: t).length u b true) false A [] = cmdsGo (fun u b => script s.length u b true) false A [] :=
    cmdsGo_ag (L := s.length) (fun u b hu => script_fuel _ _ u b true (by omega) hu) false A [] (fun c hc w hw hk => by have := ((rA.1 c hc).2.2 w hw).2 hk; omega)
  have e2 : cmdsGo (fun u b => script (s ++ 10 :: t).length u b true) false B [] = cmdsGo (fun u b => script t.length u b true) false B [] :=
    cmdsGo_ag (L := t.length) (fun u b hu => script_fuel _ _ u b true (by omega) hu) false B [] (fun c hc w hw hk => by have := ((rB.1 c hc).2.2 w hw).2 hk; omega)
  rw [e1, h1]
  simp only
  rw [cmdsGo_acc]
  have h3 := cmdsGo_sh (rec := fun u b => script (s ++ 10 :: t).length u b true) (d := s.length + 1) (fun u b => script_sh _ _ u b true) false B []
  rw [show shOs (s.length + 1) [] = [] by rw [shOs]] at h3
  rw [h3, e2, h2]
  rfl
end Plan
end Go.Proofs.Ytnjjbiialpmhbaa
namespace Go.Proofs.Ytnjjbiialpmhbaa
namespace Plan
open Tcl
/-- Braces deeper by `e`: the same, or too deep. -/
theorem braced_deep {s s' : List UInt8} {f f' e : Nat} (he : 0 < e) : ∀ (k i i' d j : Nat), s.length - i ≤ k → braced s f i (d + 1) = .ok j → (∀ m, i + m < j → s'[i' + m]? = s[i + m]?) →
    (∃ b, braced s' f' i' (d + 1 + e) = .error b) ∨ braced s' f' i' (d + 1 + e) = braced s' f' (i' + (j - i)) e := by
  intro k
  induction k with
  | zero =>
    intro i i' d j hk h _
    rw [braced_none (List.getElem?_eq_none (by omega))] at h; cases h
  | succ k ih =>
    intro i i' d j hk h ha
    cases hc : s[i]? with
    | none => rw [braced_none hc] at h; cases h
    | some c =>
      have hil := lt_of_some hc
      have hij : i < j := (braced_bound s f (s.length - i) i (d + 1) j (Nat.le_refl _) h).1
      have hc' : s'[i']? = some c := by have := ha 0 (by omega); simpa [hc] using this
      rw [braced_some hc] at h
      rw [braced_some hc']
      have step : ∀ n d2, braced s f (i + n) (d2 + 1) = .ok j → 0 < n → (∃ b, braced s' f' (i' + n) (d2 + 1 + e) = .error b) ∨ braced s' f' (i' + n) (d2 + 1 + e) = braced s' f' (i' + (j - i)) e := fun n d2 h2 hn => by
        have hb := (braced_bound s f (s.length - (i + n)) (i + n) (d2 + 1) j (Nat.le_refl _) h2).1
        have := ih (i + n) (i' + n) d2 j (by omega) h2 (fun m hm => by have := ha (n + m) (by omega); rw [Nat.add_assoc, Nat.add_assoc]; exact this)
        rw [show i' + n + (j - (i + n)) = i' + (j - i) by omega] at this
        exact this
      by_cases h1 : c = 92
      · rw [if_pos h1] at h ⊢
        exact step 2 d h (by omega)
      · rw [if_neg h1] at h ⊢
        by_cases h2 : c = 123
        · rw [if_pos h2] at h ⊢
          split at h
          · cases h
          · split
            · exact .inl ⟨_, rfl⟩
            · rw [show d + 1 + e + 1 = (d + 1) + 1 + e by omega]
              exact step 1 (d + 1) h (by omega)
        · rw [if_neg h2] at h ⊢
          by_cases h3 : c = 125
          · rw [if_pos h3] at h ⊢
            rw [if_pos (by omega)]
            split at h
            · obtain ⟨d', rfl⟩ : ∃ d', d = d' + 1 := ⟨d - 1, by omega⟩
              rw [show d' + 1 + 1 + e - 1 = d' + 1 + e by omega]
              rw [show d' + 1 + 1 - 1 = d' + 1 by omega] at h
              exact step 1 d' h (by omega)
            · cases h
              right
              rw [show d + 1 + e - 1 = e by omega, show i' + 1 = i' + (i + 1 - i) by omega]
          · rw [if_neg h3] at h ⊢
            exact step 1 d h (by omega)
/-- A byte that stands for itself in a bare word. -/
def selfB (c : UInt8) : Bool := !stopB c && c != 91 && c != 92 && c != 36
theorem bare_run {t : List UInt8} {r : List UInt8} : ∀ (name acc : List UInt8) (i : Nat), (∀ c ∈ name, selfB c = true) → t.drop i = name ++ 32 :: r → partsGo stopB t none i [] acc = .ok (flush [] (acc ++ name), i + name.length) := by
  intro name
  induction name with
  | nil =>
    intro acc i _ h
    have hc : t[i]? = some 32 := by rw [← List.head?_drop, h]; rfl
    rw [parts_some hc, if_pos (by decide)]; simp
  | cons c name ih =>
    intro acc i hn h
    have hc : t[i]? = some c := by rw [← List.head?_drop, h]; rfl
    have hs := hn c (by simp)
    simp only [selfB, Bool.and_eq_true, Bool.not_eq_true', bne_iff_ne, ne_eq] at hs
    rw [parts_some hc, if_neg (by rw [hs.1.1.1]; decide), if_neg hs.1.1.2, if_neg hs.1.2, if_neg hs.2]
    have hd : t.drop (i + 1) = name ++ 32 :: r := by rw [← List.tail_drop, h]; rfl
    rw [ih (acc ++ [c]) (i + 1) (fun x hx => hn x (by simp [hx])) hd]
    simp; omega
theorem parseGo_pre {s : List UInt8} : ∀ (k i : Nat) (l r : List Cmd), s.length - i ≤ k → parseGo s i l = .ok r → ∃ r', r = l ++ r' := by
  intro k
  induction k with
  | zero =>
    intro i l r hk h
    rw [parse_none (List.getElem?_eq_none (by omega))] at h
    cases h
    exact ⟨[], by simp⟩
  | succ k ih =>
    intro i l r hk h
    cases hc : s[i]? with
    | none => rw [parse_none hc] at h; cases h; exact ⟨[], by simp⟩
    | some c =>
      have hl := lt_of_some hc
      rw [parse_some hc] at h
      split at h
      · exact ih _ _ _ (by omega) h
      · split at h
        · split at h
          · exact ih _ _ _ (by omega) h
          · cases h
        · split at h
          · cases h
          · split at h
            · obtain ⟨r', h1⟩ := ih _ _ _ (by omega) h
              exact ⟨_ :: r', by rw [h1, List.append_assoc]; rfl⟩
            · cases h
/-- A command of a bare word and a braced one. -/
theorem two_words {t name r : List UInt8} {c0 : UInt8} {n0 : List UInt8} (ht : t = name ++ 32 :: 123 :: r) (h0 : name = c0 :: n0) (hn : ∀ c ∈ name, selfB c = true) (h35 : c0 ≠ 35) (h123 : c0 ≠ 123) (h34 : c0 ≠ 34) (hlen : t.length ≤ 16777216)
    {l : List Cmd} {c : Cmd} (hp : parse t = .ok l) (hl : l = [c]) (hw : c.words.length = 2) :
    ∃ j, braced t (name.length + 1) (name.length + 1) 0 = .ok j ∧ c = ⟨0, [⟨0, 0, [⟨false, name⟩]⟩, ⟨name.length + 1, 2, if j = name.length + 1 + 2 then [] else [⟨false, sub t (name.length + 1 + 1) (j - 1)⟩]⟩]⟩ := by
  have g : parseGo t 0 [] = .ok l := by unfold parse at hp; rw [if_neg (by omega)] at hp; exact hp
  have hc : t[0]? = some c0 := by rw [ht, h0]; rfl
  have hs0 := hn c0 (by rw [h0]; simp)
  simp only [selfB, Bool.and_eq_true, Bool.not_eq_true', bne_iff_ne, ne_eq] at hs0
  have hst := hs0.1.1.1
  have hst2 : blankB c0 = false ∧ endB c0 = false := by simpa [stopB] using hst
  rw [parse_some hc, if_neg (by rw [hst]; decide), if_neg h35] at g
  have hw0 : word t 0 c0 = .ok (⟨0, 0, [⟨false, name⟩]⟩, name.length) := by
    refine word_bare_ok h123 h34 ?_
    have := bare_run (t := t) (r := 123 :: r) name [] 0 hn (by rw [List.drop_zero]; exact ht)
    rw [this]
    rw [List.nil_append, Nat.zero_add]
    unfold flush
    rw [if_neg (by rw [h0]; simp)]; rfl
  have hb : t[name.length]? = some 32 := by rw [ht, List.getElem?_append_right (Nat.le_refl _), Nat.sub_self]; rfl
  have hb2 : t[name.length + 1]? = some 123 := by rw [ht, List.getElem?_append_right (by omega), Nat.add_sub_cancel_left]; rfl
  have hnl : 0 < name.length := by rw [h0]; simp
  have hcm : command t 0 [] = match word t (name.length + 1) 123 with | .error b => .error b | .ok (w, j) => if name.length + 1 < j then command t j [⟨0, 0, [⟨false, name⟩]⟩, w] else .error (0, 0) := by
    rw [command_some hc, if_neg (by rw [hst2.2]; decide), if_neg (by rw [hst2.1]; decide), hw0]
    simp only [if_pos hnl]
    rw [command_some hb, if_neg (by decide), if_pos (by decide), command_some hb2, if_neg (by decide), if_neg (by decide)]
    rfl
  rw [hcm] at g
  cases hwd : word t (name.length + 1) 123 with
  | error b => rw [hwd] at g; cases g
  | ok x =>
    obtain ⟨w1, j⟩ := x
    rw [hwd] at g
    simp only at g
    have hj : name.length + 1 < j := by
      by_cases hj : name.length + 1 < j
      · exact hj
      · rw [if_neg hj] at g; cases g
    rw [if_pos hj] at g
    cases hcc : command t j [⟨0, 0, [⟨false, name⟩]⟩, w1] with
    | error b => rw [hcc] at g; cases g
    | ok y =>
      obtain ⟨ws, j0⟩ := y
      rw [hcc] at g
      simp only at g
      have hws : ∃ r', ws = [⟨0, 0, [⟨false, name⟩]⟩, w1] ++ r' := by
        have hjl := (word_bound hb2 (by decide) hwd).2
        have hin := command_places (t.length - j) j [⟨0, 0, [⟨false, name⟩]⟩, w1] ws j0 (Nat.le_refl _) hjl hcc
        have hp1 := word_place hb2 hwd
        obtain ⟨⟨r', h1, -⟩, -⟩ := hin (fun w hw => by
          simp at hw
          rcases hw with rfl | rfl
          · exact ⟨by simp only; have := lt_of_some hc; omega, fun h => by simp at h⟩
          · exact ⟨by have := lt_of_some hb2; omega, fun h => by have := hp1.2 h; omega⟩)
        exact ⟨r', h1⟩
      split at g
      · obtain ⟨r2, hr2⟩ := parseGo_pre (t.length - j0) j0 _ _ (Nat.le_refl _) g
        rw [hl] at hr2
        simp only [List.nil_append, List.cons_append, List.cons.injEq] at hr2
        obtain ⟨rfl, -⟩ := hr2
        obtain ⟨r', rfl⟩ := hws
        simp only [List.length_append, List.length_cons, List.length_nil] at hw
        obtain rfl : r' = [] := List.length_eq_zero_iff.1 (by omega)
        unfold word at hwd
        rw [if_pos rfl] at hwd
        split at hwd
        · cases hwd
        · rename_i j' hbr
          split at hwd
          · cases hwd
          · cases hwd
            exact ⟨j, hbr, rfl⟩
      · cases g
theorem cmdOp_true {rec : List UInt8 → Nat → Except Bad (List Op)} {c : Cmd} {o : Op} (h : cmdOp rec false c = .ok o) : cmdOp rec true c = .ok o := by
  unfold cmdOp at h ⊢
  split at h
  · cases h
  · split at h
    · cases h
    · split at h
      · cases h
      · split at h
        · cases h
        · rename_i h1
          rw [if_neg h1]
          split at h
          · cases h
          · rw [if_neg (by simp)]; exact h
theorem cmdsGo_true {rec : List UInt8 → Nat → Except Bad (List Op)} : ∀ {cs : List Cmd} {acc l : List Op}, cmdsGo rec false cs acc = .ok l → cmdsGo rec true cs acc = .ok l := by
  intro cs
  induction cs with
  | nil => intro acc l h; exact h
  | cons c r ih =>
    intro acc l h
    simp only [cmdsGo] at h ⊢
    split at h
    · cases h
    · rename_i o ho
      rw [cmdOp_true ho]
      exact ih h
theorem script_true {n : Nat} {s : List UInt8} {b : Nat} {l : List Op} (h : script n s b false = .ok l) : script n s b true = .ok l := by
  cases n with
  | zero => simp only [script] at h; cases h
  | succ n =>
    simp only [script] at h ⊢
    split at h
    · cases h
    · exact cmdsGo_true h
def eS (s : List UInt8) : List UInt8 := [101, 111, 102] ++ 32 :: 123 :: (s ++ [125])
def xS (s : List UInt8) : List UInt8 := [101, 120, 112, 101, 99, 116] ++ 32 :: 123 :: (eS s ++ [125])
theorem eS_len (s : List UInt8) : (eS s).length = s.length + 6 := by simp [eS]
theorem xS_len (s : List UInt8) : (xS s).length = s.length + 15 := by simp [xS, eS_len]
theorem xS_at (s : List UInt8) (k : Nat) (h : k < s.length + 6) : (xS s)[8 + k]? = (eS s)[k]? := by
  have e : xS s = [101, 120, 112, 101, 99, 116, 32, 123] ++ (eS s ++ [125]) := rfl
  rw [e, List.getElem?_append_right (by simp), show 8 + k - ([101, 120, 112, 101, 99, 116, 32, 123] : List UInt8).length = k by simp, List.getElem?_append_left (by rw [eS_len]; exact h)]
theorem plan_body {s : List UInt8} {a : List Op} (hlen : s.length ≤ 2000) {c d : Cmd} (h1 : parse (xS s) = .ok [c]) (hc : c.words.length = 2) (h2 : parse (eS s) = .ok [d]) (hd : d.words.length = 2) {w1 : Word} (hd1 : d.words[1]? = some w1) (ho : openT w1 = s) (h3 : planOf s = .ok a) :
    planOf (xS s) = .ok [.mk 3 0 [] [.mk 3 ⟨0, 0, []⟩ (shOs 13 a)]] := by
  have lE := eS_len s
  have lX := xS_len s
  obtain ⟨j1, hb1, rfl⟩ := two_words (t := eS s) (name := [101, 111, 102]) (r := s ++ [125]) rfl rfl (by decide) (by decide) (by decide) (by decide) (by omega) h2 rfl hd
  obtain ⟨j2, hb2, rfl⟩ := two_words (t := xS s) (name := [101, 120, 112, 101, 99, 116]) (r := eS s ++ [125]) rfl rfl (by decide) (by decide) (by decide) (by decide) (by omega) h1 rfl hc
  simp only [List.length_cons, List.length_nil, Nat.zero_add, Nat.reduceAdd] at hb1 hb2 hd1 h1 h2
  simp only [List.getElem?_cons_succ, List.getElem?_cons_zero, Option.some.injEq] at hd1
  have e4 : (eS s)[4]? = some 123 := rfl
  have hb1' := hb1
  rw [braced_some e4, if_neg (by decide), if_pos rfl, if_neg (by decide)] at hb1'
  have hbd := braced_bound (eS s) 4 ((eS s).length - 5) 5 (0 + 1) j1 (Nat.le_refl _) hb1'
  have hsub : sub (eS s) 5 (j1 - 1) = s := by
    rw [← hd1] at ho
    unfold openT at ho
    simp only at ho
    split at ho
    · rename_i h6
      rw [← ho, h6]
      simp [sub]
    · simpa using ho
  have hj1 : j1 = s.length + 6 := by
    have := congrArg List.length hsub
    simp [sub] at this
    omega
  subst hj1
  have x7 : (xS s)[7]? = some 123 := rfl
  have x8 : (xS s)[8]? = some 101 := rfl
  have x9 : (xS s)[9]? = some 111 := rfl
  have x10 : (xS s)[10]? = some 102 := rfl
  have x11 : (xS s)[11]? = some 32 := rfl
  have x12 : (xS s)[12]? = some 123 := rfl
  have hb2' := hb2
  rw [braced_some x7, if_neg (by decide), if_pos rfl, if_neg (by decide), braced_some x8, if_neg (by decide), if_neg (by decide), if_neg (by decide), braced_some x9, if_neg (by decide), if_neg (by decide), if_neg (by decide),
    braced_some x10, if_neg (by decide), if_neg (by decide), if_neg (by decide), braced_some x11, if_neg (by decide), if_neg (by decide), if_neg (by decide), braced_some x12, if_neg (by decide), if_pos rfl, if_neg (by decide)] at hb2'
  have hj2 : j2 = s.length + 15 := by
    rcases braced_deep (s := eS s) (s' := xS s) (f := 4) (f' := 7) (e := 1) (by decide) ((eS s).length - 5) 5 13 0 (s.length + 6) (Nat.le_refl _) hb1' (fun m hm => by
      have := xS_at s (5 + m) (by omega)
      rw [show 8 + (5 + m) = 13 + m by omega] at this
      exact this) with ⟨b, hb⟩ | hb
    · rw [show (0 + 1 + 1 : Nat) = 0 + 1 + 1 from rfl] at hb
      rw [hb] at hb2'; cases hb2'
    · rw [hb] at hb2'
      have xl : (xS s)[13 + (s.length + 6 - 5)]? = some 125 := by
        have e : xS s = ([101, 120, 112, 101, 99, 116, 32, 123] ++ eS s) ++ [125] := rfl
        rw [e, List.getElem?_append_right (by simp [eS_len]; omega)]
        have : 13 + (s.length + 6 - 5) - ([101, 120, 112, 101, 99, 116, 32, 123] ++ eS s).length = 0 := by simp [eS_len]; omega
        rw [this]; rfl
      rw [braced_some xl, if_neg (by decide), if_neg (by decide), if_pos rfl, if_neg (by decide)] at hb2'
      cases hb2'; omega
  subst hj2
  have hsubX : sub (xS s) 8 (s.length + 15 - 1) = eS s := by
    have e : xS s = [101, 120, 112, 101, 99, 116, 32, 123] ++ (eS s ++ [125]) := rfl
    unfold sub
    rw [e, List.take_append, List.take_of_length_le (by simp), List.drop_append]
    simp [eS_len]
  obtain ⟨ps, hps⟩ : ∃ ps, (if s.length + 6 = 4 + 2 then ([] : List Part) else [⟨false, sub (eS s) (4 + 1) (s.length + 6 - 1)⟩]) = ps := ⟨_, rfl⟩
  have hops : ∀ a, openT ⟨a, 2, ps⟩ = s := fun a => by
    rw [← hps]
    unfold openT
    simp only
    split
    · rename_i h6
      have : s.length = 0 := by omega
      rw [List.length_eq_zero_iff.1 this]; rfl
    · simpa using hsub
  have h6' : (⟨0, [⟨0, 0, [⟨false, [101, 111, 102]⟩]⟩, ⟨4, 2, ps⟩]⟩ : Cmd) = ⟨0, [⟨0, 0, [⟨false, [101, 111, 102]⟩]⟩, ⟨4, 2, if s.length + 6 = 6 then [] else [⟨false, sub (eS s) 5 (s.length + 6 - 1)⟩]⟩]⟩ := by rw [← hps]
  rw [← h6'] at h2
  have h9 : ¬ (s.length + 15 = 9) := by omega
  rw [if_neg h9, hsubX] at h1
  unfold planOf
  simp only [script]
  rw [parseAt_zero, h1]
  simp only
  have hpE : parseAt (eS s) (7 + 1) = .ok [⟨8, [⟨8, 0, [⟨false, [101, 111, 102]⟩]⟩, ⟨12, 2, ps⟩]⟩] := by
    unfold parseAt
    rw [h2]; rfl
  have hrec : script (xS s).length s (12 + 1) true = .ok (shOs 13 a) := by
    have e1 : script (xS s).length s 0 true = .ok a := by
      rw [script_fuel _ (s.length + 1) s 0 true (by omega) (by omega)]
      exact script_true h3
    have := script_sh 13 (xS s).length s 0 true
    rw [e1, Nat.zero_add] at this
    rw [this]; rfl
  have hform : formOf [101, 120, 112, 101, 99, 116] = some (3, 1, 1073741824) := by decide
  have hA : argsA [⟨7, 2, [⟨false, eS s⟩]⟩] = .ok [⟨8, 0, [⟨false, [101, 111, 102]⟩]⟩, ⟨12, 2, ps⟩] := by
    unfold argsA
    simp only
    rw [if_pos trivial]
    have : openT ⟨7, 2, [⟨false, eS s⟩]⟩ = eS s := by simp [openT]
    rw [this, hpE]; rfl
  have hG : armsGo (fun t b => script (xS s).length t b true) 2 [⟨8, 0, [⟨false, [101, 111, 102]⟩]⟩, ⟨12, 2, ps⟩] [] = .ok [.mk 3 ⟨0, 0, []⟩ (shOs 13 a)] := by
    have hf : flagged ⟨8, 0, [⟨false, [101, 111, 102]⟩]⟩ = some 3 := by decide
    have hh : headA ⟨8, 0, [⟨false, [101, 111, 102]⟩]⟩ [⟨12, 2, ps⟩] = .ok (3, ⟨0, 0, []⟩, [⟨12, 2, ps⟩]) := by unfold headA; rw [hf]; rfl
    have hbd2 : bodyA (fun t b => script (xS s).length t b true) [⟨12, 2, ps⟩] = .ok (shOs 13 a, []) := by
      unfold bodyA
      simp only
      rw [if_pos trivial, hops, hrec]
    rw [armsGo, if_neg (by simp), hh]
    simp only
    rw [hbd2]
    rfl
  have hO : cmdOp (fun t b => script (xS s).length t b true) false ⟨0, [⟨0, 0, [⟨false, [101, 120, 112, 101, 99, 116]⟩]⟩, ⟨7, 2, [⟨false, eS s⟩]⟩]⟩ = .ok (.mk 3 0 [] [.mk 3 ⟨0, 0, []⟩ (shOs 13 a)]) := by
    unfold cmdOp
    simp only [oneT]
    rw [if_neg (by simp)]
    simp only
    rw [hform]
    simp only [List.length_cons, List.length_nil]
    rw [if_neg (by decide), if_neg (by decide), if_neg (by decide), hA]
    simp only [List.length_cons, List.length_nil]
    rw [hG]
  rw [cmdsGo, hO]
  rfl
end Plan
end Go.Proofs.Ytnjjbiialpmhbaa
