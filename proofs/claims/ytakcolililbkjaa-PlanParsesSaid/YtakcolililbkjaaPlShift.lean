/- Scripts further on, and with more rounds, in plain Lean. No condition. -/
import Derived.Test.YtakcolililbkjaaPlPlace
set_option linter.unusedVariables false
set_option linter.unusedSimpArgs false
namespace Go.Proofs.Ytakcolililbkjaa
namespace Plan
open Tcl
mutual
def shO (d : Nat) : Op → Op
  | .mk k a ws as => .mk k (a + d) (ws.map (shiftW d)) (shAs d as)
def shA (d : Nat) : Arm → Arm
  | .mk k p b => .mk k (if k < 2 then shiftW d p else p) (shOs d b)
def shAs (d : Nat) : List Arm → List Arm
  | [] => []
  | a :: r => shA d a :: shAs d r
def shOs (d : Nat) : List Op → List Op
  | [] => []
  | o :: r => shO d o :: shOs d r
end
theorem shOs_map (d : Nat) : ∀ l, shOs d l = l.map (shO d)
  | [] => by rw [shOs]; rfl
  | o :: r => by rw [shOs, shOs_map d r]; rfl
theorem shAs_map (d : Nat) : ∀ l, shAs d l = l.map (shA d)
  | [] => by rw [shAs]; rfl
  | o :: r => by rw [shAs, shAs_map d r]; rfl
theorem shAs_append (d : Nat) (a b : List Arm) : shAs d (a ++ b) = shAs d a ++ shAs d b := by simp [shAs_map]
theorem shOs_append (d : Nat) (a b : List Op) : shOs d (a ++ b) = shOs d a ++ shOs d b := by simp [shOs_map]
mutual
theorem cntO_sh (d : Nat) : ∀ o, cntO (shO d o) = cntO o
  | .mk k a ws as => by rw [shO, cntO, cntO, cntAs_sh d as]
theorem cntA_sh (d : Nat) : ∀ o, cntA (shA d o) = cntA o
  | .mk k p b => by rw [shA, cntA, cntA, cntOs_sh d b]
theorem cntAs_sh (d : Nat) : ∀ l, cntAs (shAs d l) = cntAs l
  | [] => by rw [shAs]
  | a :: r => by rw [shAs, cntAs, cntAs, cntA_sh d a, cntAs_sh d r]
theorem cntOs_sh (d : Nat) : ∀ l, cntOs (shOs d l) = cntOs l
  | [] => by rw [shOs]
  | a :: r => by rw [shOs, cntOs, cntOs, cntO_sh d a, cntOs_sh d r]
end
theorem cntOs_append (b : List Op) : ∀ a, cntOs (a ++ b) = cntOs a + cntOs b
  | [] => by rw [cntOs]; simp
  | o :: r => by rw [List.cons_append, cntOs, cntOs, cntOs_append b r]; omega
theorem cntOs_len : ∀ l : List Op, l.length ≤ cntOs l
  | [] => by simp
  | .mk k a ws as :: r => by have := cntOs_len r; rw [cntOs, cntO, List.length_cons]; omega
def shB (d : Nat) (b : Bad) : Bad := (if b.2 = 0 then b.1 else b.1 + d, b.2)
def shR {α β : Type} (f : α → β) (d : Nat) : Except Bad α → Except Bad β
  | .error b => .error (shB d b)
  | .ok a => .ok (f a)
theorem shiftW_add (b d : Nat) (w : Word) : shiftW (b + d) w = shiftW d (shiftW b w) := by unfold shiftW; simp [Nat.add_assoc]
theorem shiftC_add (b d : Nat) (c : Cmd) : shiftC (b + d) c = shiftC d (shiftC b c) := by
  unfold shiftC; simp only [List.map_map, Nat.add_assoc]
  congr 1
  exact List.map_congr_left fun w _ => shiftW_add b d w
theorem oneT_sh (d : Nat) (w : Word) : oneT (shiftW d w) = oneT w := rfl
theorem openT_sh (d : Nat) (w : Word) : openT (shiftW d w) = openT w := rfl
theorem flagged_sh (d : Nat) (w : Word) : flagged (shiftW d w) = flagged w := rfl
theorem parseAt_sh (t : List UInt8) (b d : Nat) : parseAt t (b + d) = shR (List.map (shiftC d)) d (parseAt t b) := by
  unfold parseAt
  cases parse t with
  | error e =>
    simp only [shR, shB]
    split <;> simp_all
    omega
  | ok cs =>
    simp only [shR, List.map_map]
    congr 1
    exact List.map_congr_left fun c _ => shiftC_add b d c
theorem headA_sh (d : Nat) (f : Word) (l : List Word) : headA (shiftW d f) (l.map (shiftW d)) = shR (fun x => (x.1, (if x.1 < 2 then shiftW d x.2.1 else x.2.1), x.2.2.map (shiftW d))) d (headA f l) := by
  unfold headA
  rw [flagged_sh]
  cases flagged f with
  | none => rfl
  | some k =>
    simp only
    by_cases hk : k < 2
    · rw [if_pos hk, if_pos hk]
      cases l with
      | nil => rfl
      | cons p r => simp only [List.map_cons, shR, if_pos hk]
    · rw [if_neg hk, if_neg hk]
      simp only [shR, if_neg hk]
theorem bodyA_sh {rec : List UInt8 → Nat → Except Bad (List Op)} {d : Nat} (hrec : ∀ u b, rec u (b + d) = shR (shOs d) d (rec u b)) (l : List Word) : bodyA rec (l.map (shiftW d)) = shR (fun x => (shOs d x.1, x.2.map (shiftW d))) d (bodyA rec l) := by
  unfold bodyA
  cases l with
  | nil => simp only [List.map_nil, shR, shOs]
  | cons w r =>
    simp only [List.map_cons]
    by_cases hk : w.kind = 2
    · rw [if_pos hk, if_pos (show (shiftW d w).kind = 2 from hk), openT_sh, show (shiftW d w).at_ + 1 = w.at_ + 1 + d by simp only [shiftW]; omega, hrec]
      cases rec (openT w) (w.at_ + 1) with
      | error b => rfl
      | ok body => rfl
    · rw [if_neg hk, if_neg (show ¬ (shiftW d w).kind = 2 from hk)]
      simp only [shR, shOs, List.map_cons]
theorem armsGo_sh {rec : List UInt8 → Nat → Except Bad (List Op)} {d : Nat} (hrec : ∀ u b, rec u (b + d) = shR (shOs d) d (rec u b)) : ∀ (n : Nat) (l : List Word) (acc : List Arm),
    armsGo rec n (l.map (shiftW d)) (shAs d acc) = shR (shAs d) d (armsGo rec n l acc) := by
  intro n
  induction n with
  | zero =>
    intro l acc
    cases l with
    | nil => simp only [List.map_nil, armsGo, shR]
    | cons w r => simp only [List.map_cons, armsGo, shR, shB]; rfl
  | succ n ih =>
    intro l acc
    cases l with
    | nil => simp only [List.map_nil, armsGo, shR]
    | cons f l =>
      simp only [List.map_cons, armsGo]
      have hl : (shAs d acc).length = acc.length := by rw [shAs_map, List.length_map]
      rw [hl]
      by_cases h64 : acc.length = 64
      · rw [if_pos h64, if_pos h64]
        simp only [shR, shB, shiftW]; rfl
      · rw [if_neg h64, if_neg h64, headA_sh]
        cases headA f l with
        | error b => rfl
        | ok x =>
          obtain ⟨k, p, l2⟩ := x
          simp only [shR]
          rw [bodyA_sh hrec]
          cases bodyA rec l2 with
          | error b => rfl
          | ok y =>
            obtain ⟨body, l3⟩ := y
            simp only [shR]
            have h := ih l3 (acc ++ [.mk k p body])
            rw [shAs_append] at h
            simp only [shAs, shA] at h
            exact h
theorem argsA_sh (d : Nat) (l : List Word) : argsA (l.map (shiftW d)) = shR (List.map (shiftW d)) d (argsA l) := by
  unfold argsA
  match l with
  | [] => rfl
  | [a] =>
    simp only [List.map_cons, List.map_nil]
    by_cases hk : a.kind = 2
    · rw [if_pos hk, if_pos (show (shiftW d a).kind = 2 from hk), openT_sh, show (shiftW d a).at_ + 1 = a.at_ + 1 + d by simp only [shiftW]; omega, parseAt_sh]
      cases parseAt (openT a) (a.at_ + 1) with
      | error b => rfl
      | ok cs =>
        simp only [shR]
        congr 1
        rw [List.map_map, List.map_flatten, List.map_map]
        rfl
    · rw [if_neg hk, if_neg (show ¬ (shiftW d a).kind = 2 from hk)]
      rfl
  | a :: b :: r => rfl
theorem cmdOp_sh {rec : List UInt8 → Nat → Except Bad (List Op)} {d : Nat} (hrec : ∀ u b, rec u (b + d) = shR (shOs d) d (rec u b)) (body : Bool) (c : Cmd) : cmdOp rec body (shiftC d c) = shR (shO d) d (cmdOp rec body c) := by
  obtain ⟨at_, ws⟩ := c
  unfold cmdOp shiftC
  simp only
  cases ws with
  | nil => simp only [List.map_nil, shR, shB]; rfl
  | cons w0 args =>
    simp only [List.map_cons, oneT_sh]
    cases oneT w0 with
    | none => simp only [shR, shB, shiftW]; rfl
    | some name =>
      simp only
      cases formOf name with
      | none => simp only [shR, shB]; rfl
      | some x =>
        obtain ⟨k, lo, hi⟩ := x
        simp only [List.length_map]
        split
        · simp only [shR, shB]; rfl
        · split
          · simp only [shR, shB]; rfl
          · split
            · simp only [shR, shO, shAs]
            · rw [argsA_sh]
              cases argsA args with
              | error b => rfl
              | ok ws =>
                simp only [shR, List.length_map]
                have h := armsGo_sh hrec ws.length ws []
                rw [show shAs d [] = [] by rw [shAs]] at h
                rw [h]
                cases armsGo rec ws.length ws [] with
                | error b => rfl
                | ok as =>
                  cases as with
                  | nil => simp only [shR, shAs, shB]; rfl
                  | cons a as => simp only [shR, shAs, shO, List.map_nil]
theorem cmdsGo_sh {rec : List UInt8 → Nat → Except Bad (List Op)} {d : Nat} (hrec : ∀ u b, rec u (b + d) = shR (shOs d) d (rec u b)) (body : Bool) : ∀ (cs : List Cmd) (acc : List Op),
    cmdsGo rec body (cs.map (shiftC d)) (shOs d acc) = shR (shOs d) d (cmdsGo rec body cs acc) := by
  intro cs
  induction cs with
  | nil => intro acc; rfl
  | cons c r ih =>
    intro acc
    simp only [List.map_cons, cmdsGo]
    rw [cmdOp_sh hrec]
    cases cmdOp rec body c with
    | error b => rfl
    | ok o =>
      simp only [shR]
      have h := ih (acc ++ [o])
      rw [shOs_append] at h
      simp only [shOs] at h
      exact h
theorem script_sh (d : Nat) : ∀ (n : Nat) (t : List UInt8) (b : Nat) (body : Bool), script n t (b + d) body = shR (shOs d) d (script n t b body) := by
  intro n
  induction n with
  | zero => intro t b body; simp only [script, shR, shB]; rfl
  | succ n ih =>
    intro t b body
    simp only [script]
    rw [parseAt_sh]
    cases parseAt t b with
    | error e => rfl
    | ok cs =>
      simp only [shR]
      have h := cmdsGo_sh (rec := fun t b => script n t b true) (d := d) (fun u b => ih u b true) body cs []
      rw [show shOs d [] = [] by rw [shOs]] at h
      rw [h]
      rfl
/-! ### more rounds -/
/-- The words' inner texts are shorter than `L`. -/
def Under (L : Nat) (ws : List Word) : Prop := ∀ w ∈ ws, w.kind = 2 → (openT w).length < L
section
variable {rec rec' : List UInt8 → Nat → Except Bad (List Op)} {L : Nat}
theorem bodyA_ag (h : ∀ u b, u.length < L → rec u b = rec' u b) {l : List Word} (hu : Under L l) : bodyA rec l = bodyA rec' l := by
  unfold bodyA
  cases l with
  | nil => rfl
  | cons w r =>
    simp only
    by_cases hk : w.kind = 2
    · rw [if_pos hk, if_pos hk, h _ _ (hu w (by simp) hk)]
    · rw [if_neg hk, if_neg hk]
theorem headA_under {L : Nat} {f : Word} {l l2 : List Word} {k : Nat} {p : Word} (hu : Under L l) (h : headA f l = .ok (k, p, l2)) : Under L l2 := by
  unfold headA at h
  split at h
  · cases h; exact hu
  · split at h
    · split at h
      · cases h
      · cases h; exact fun w hw => hu w (by simp [hw])
    · cases h; exact hu
theorem bodyA_under {rec : List UInt8 → Nat → Except Bad (List Op)} {L : Nat} {l l3 : List Word} {b : List Op} (hu : Under L l) (h : bodyA rec l = .ok (b, l3)) : Under L l3 := by
  unfold bodyA at h
  split at h
  · cases h; exact hu
  · split at h
    · split at h
      · cases h
      · cases h; exact fun w hw => hu w (by simp [hw])
    · cases h; exact hu
theorem armsGo_ag (h : ∀ u b, u.length < L → rec u b = rec' u b) : ∀ (n : Nat) (l : List Word) (acc : List Arm), Under L l → armsGo rec n l acc = armsGo rec' n l acc := by
  intro n
  induction n with
  | zero => intro l acc hu; cases l <;> rfl
  | succ n ih =>
    intro l acc hu
    cases l with
    | nil => rfl
    | cons f l =>
      have hu2 : Under L l := fun w hw => hu w (by simp [hw])
      simp only [armsGo]
      split
      · rfl
      · cases hh : headA f l with
        | error b => rfl
        | ok x =>
          obtain ⟨k, p, l2⟩ := x
          simp only
          have hu3 := headA_under hu2 hh
          rw [← bodyA_ag h hu3]
          cases hb : bodyA rec l2 with
          | error b => rfl
          | ok y =>
            obtain ⟨b, l3⟩ := y
            exact ih _ _ (bodyA_under hu3 hb)
theorem parseAt_under {t : List UInt8} {b : Nat} {cs : List Cmd} (h : parseAt t b = .ok cs) : ∀ c ∈ cs, Under t.length c.words := by
  unfold parseAt at h
  split at h
  · cases h
  · rename_i l hp
    cases h
    intro c hc w hw hk
    obtain ⟨c0, h0, rfl⟩ := List.mem_map.1 hc
    obtain ⟨w0, h1, rfl⟩ := List.mem_map.1 hw
    have := ((parse_row hp).1 c0 h0).2.2 w0 h1
    have := this.2 hk
    rw [openT_sh]; omega
theorem argsA_under {args ws : List Word} (hu : Under L args) (h : argsA args = .ok ws) : Under L ws := by
  unfold argsA at h
  split at h
  · rename_i a
    split at h
    · rename_i hk
      split at h
      · cases h
      · rename_i l hp
        cases h
        intro w hw hk2
        obtain ⟨ws, h1, h2⟩ := List.mem_flatten.1 hw
        obtain ⟨c, h3, rfl⟩ := List.mem_map.1 h1
        have := parseAt_under hp c h3 w h2 hk2
        have := hu a (by simp) hk
        omega
    · cases h; exact hu
  · cases h; exact hu
theorem cmdOp_ag (h : ∀ u b, u.length < L → rec u b = rec' u b) (body : Bool) {c : Cmd} (hu : Under L c.words) : cmdOp rec body c = cmdOp rec' body c := by
  unfold cmdOp
  split
  · rfl
  · rename_i w0 args hws
    have hu2 : Under L args := fun w hw => hu w (by rw [hws]; simp [hw])
    split
    · rfl
    · split
      · rfl
      · split
        · rfl
        · split
          · rfl
          · split
            · rfl
            · cases ha : argsA args with
              | error b => rfl
              | ok ws => simp only; rw [armsGo_ag h _ _ _ (argsA_under hu2 ha)]
theorem cmdsGo_ag (h : ∀ u b, u.length < L → rec u b = rec' u b) (body : Bool) : ∀ (cs : List Cmd) (acc : List Op), (∀ c ∈ cs, Under L c.words) → cmdsGo rec body cs acc = cmdsGo rec' body cs acc := by
  intro cs
  induction cs with
  | nil => intro acc _; rfl
  | cons c r ih =>
    intro acc hu
    simp only [cmdsGo]
    rw [cmdOp_ag h body (hu c (by simp))]
    cases cmdOp rec' body c with
    | error b => rfl
    | ok o => exact ih _ (fun c hc => hu c (by simp [hc]))
end
theorem script_fuel : ∀ (n m : Nat) (t : List UInt8) (b : Nat) (body : Bool), t.length < n → t.length < m → script n t b body = script m t b body := by
  intro n
  induction n with
  | zero => intro m t b body h; omega
  | succ n ih =>
    intro m t b body h1 h2
    cases m with
    | zero => omega
    | succ m =>
      simp only [script]
      cases hp : parseAt t b with
      | error e => rfl
      | ok cs => exact cmdsGo_ag (L := t.length) (fun u b hu => ih m u b true (by omega) (by omega)) body cs [] (parseAt_under hp)
theorem cmdsGo_append (rec : List UInt8 → Nat → Except Bad (List Op)) (body : Bool) (b : List Cmd) : ∀ (a : List Cmd) (acc : List Op), cmdsGo rec body (a ++ b) acc = match cmdsGo rec body a acc with | .error e => .error e | .ok l => cmdsGo rec body b l := by
  intro a
  induction a with
  | nil => intro acc; rfl
  | cons c r ih =>
    intro acc
    simp only [List.cons_append, cmdsGo]
    cases cmdOp rec body c with
    | error e => rfl
    | ok o => exact ih _
theorem cmdsGo_acc (rec : List UInt8 → Nat → Except Bad (List Op)) (body : Bool) : ∀ (a : List Cmd) (acc : List Op), cmdsGo rec body a acc = match cmdsGo rec body a [] with | .error e => .error e | .ok l => .ok (acc ++ l) := by
  intro a
  induction a with
  | nil => intro acc; simp [cmdsGo]
  | cons c r ih =>
    intro acc
    simp only [cmdsGo]
    cases cmdOp rec body c with
    | error e => rfl
    | ok o =>
      simp only
      rw [ih (acc ++ [o]), ih ([] ++ [o])]
      cases cmdsGo rec body r [] with
      | error e => rfl
      | ok l => simp
end Plan
end Go.Proofs.Ytakcolililbkjaa
