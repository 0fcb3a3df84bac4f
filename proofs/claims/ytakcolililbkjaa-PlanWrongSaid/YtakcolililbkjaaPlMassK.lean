/- A script has no more operations than bytes: plain Lean. No condition. -/
import Derived.Test.YtakcolililbkjaaPlJoinK
set_option linter.unusedVariables false
set_option linter.unusedSimpArgs false
namespace Go.Proofs.Ytakcolililbkjaa
namespace Plan
open Tcl
def mW (w : Word) : Nat := 1 + (if w.kind = 2 then (openT w).length else 0)
def mWs (ws : List Word) : Nat := (ws.map mW).sum
theorem mWs_append (a b : List Word) : mWs (a ++ b) = mWs a + mWs b := by unfold mWs; simp
theorem mWs_cons (a : Word) (b : List Word) : mWs (a :: b) = mW a + mWs b := by unfold mWs; simp
theorem mW_sh (d : Nat) (w : Word) : mW (shiftW d w) = mW w := rfl
theorem mWs_sh (d : Nat) (ws : List Word) : mWs (ws.map (shiftW d)) = mWs ws := by
  unfold mWs; rw [List.map_map]; rfl
theorem command_mass {s : List UInt8} : ∀ (k i : Nat) (ws r : List Word) (j : Nat), s.length - i ≤ k → i ≤ s.length → command s i ws = .ok (r, j) → mWs r + i ≤ mWs ws + j := by
  intro k
  induction k with
  | zero =>
    intro i ws r j hk hi h
    rw [command_none (List.getElem?_eq_none (by omega))] at h
    cases h; omega
  | succ k ih =>
    intro i ws r j hk hi h
    cases hc : s[i]? with
    | none => rw [command_none hc] at h; cases h; omega
    | some c =>
      have hl := lt_of_some hc
      rw [command_some hc] at h
      split at h
      · cases h; omega
      · split at h
        · have := ih _ _ _ _ (by omega) (by omega) h; omega
        · rename_i he hb
          split at h
          · cases h
          · rename_i w j' hwd
            have hb2 := word_bound hc (by simp [stopB]; exact ⟨by simpa using hb, by simpa using he⟩) hwd
            have hp := word_place hc hwd
            split at h
            · have := ih _ _ _ _ (by omega) (by omega) h
              rw [mWs_append] at this
              have hm : mW w + i ≤ j' := by
                unfold mW
                split
                · rename_i hk2; have := hp.2 hk2; omega
                · omega
              have h1 : mWs [w] = mW w := by simp [mWs]
              omega
            · cases h
theorem parseGo_mass {s : List UInt8} : ∀ (k i : Nat) (l r : List Cmd), s.length - i ≤ k → i ≤ s.length → parseGo s i l = .ok r → (r.map (fun c => mWs c.words)).sum + i ≤ (l.map (fun c => mWs c.words)).sum + s.length := by
  intro k
  induction k with
  | zero =>
    intro i l r hk hi h
    rw [parse_none (List.getElem?_eq_none (by omega))] at h
    cases h; omega
  | succ k ih =>
    intro i l r hk hi h
    cases hc : s[i]? with
    | none => rw [parse_none hc] at h; cases h; omega
    | some c =>
      have hl := lt_of_some hc
      rw [parse_some hc] at h
      split at h
      · have := ih _ _ _ (by omega) (by omega) h; omega
      · split at h
        · split at h
          · have hll := lineLen_le (s.drop i)
            rw [List.length_drop] at hll
            have := ih _ _ _ (by omega) (by omega) h; omega
          · cases h
        · split at h
          · cases h
          · rename_i ws j hcm
            have hb := command_bound s (s.length - i) i [] ws j (Nat.le_refl _) (by omega) hcm
            have hm := command_mass (s.length - i) i [] ws j (Nat.le_refl _) (by omega) hcm
            split at h
            · have := ih _ _ _ (by omega) (by omega) h
              simp only [List.map_append, List.sum_append, List.map_cons, List.map_nil, List.sum_cons, List.sum_nil] at this
              have h0 : mWs [] = 0 := rfl
              rw [h0] at hm
              omega
            · cases h
theorem parseAt_mass {t : List UInt8} {b : Nat} {cs : List Cmd} (h : parseAt t b = .ok cs) : (cs.map (fun c => mWs c.words)).sum ≤ t.length := by
  unfold parseAt at h
  split at h
  · cases h
  · rename_i l hp
    cases h
    unfold parse at hp
    split at hp
    · cases hp
    · have := parseGo_mass (t.length - 0) 0 [] l (Nat.le_refl _) (by omega) hp
      rw [List.map_map]
      have e : (fun c : Cmd => mWs c.words) ∘ shiftC b = fun c => mWs c.words := by funext c; exact mWs_sh b c.words
      rw [e]
      simpa using this
def RecM (rec : List UInt8 → Nat → Except Bad (List Op)) : Prop := ∀ u b l, rec u b = .ok l → cntOs l ≤ u.length
theorem headA_mass {f : Word} {l l2 : List Word} {k : Nat} {p : Word} (h : headA f l = .ok (k, p, l2)) : mWs l2 ≤ mWs l := by
  unfold headA at h
  split at h
  · cases h; exact Nat.le_refl _
  · split at h
    · split at h
      · cases h
      · cases h; rw [mWs_cons]; omega
    · cases h; exact Nat.le_refl _
theorem bodyA_mass {rec : List UInt8 → Nat → Except Bad (List Op)} (hr : RecM rec) {l l2 : List Word} {b : List Op} (h : bodyA rec l = .ok (b, l2)) : cntOs b + mWs l2 ≤ mWs l := by
  unfold bodyA at h
  split at h
  · cases h; rw [cntOs]; omega
  · rename_i w r
    split at h
    · rename_i hk
      split at h
      · cases h
      · rename_i b' hb
        cases h
        have := hr _ _ _ hb
        rw [mWs_cons]
        unfold mW
        rw [if_pos hk]; omega
    · cases h; rw [cntOs]; omega
theorem cntAs_snoc (l : List Arm) (a : Arm) : cntAs (l ++ [a]) = cntAs l + cntA a := by
  induction l with
  | nil => simp only [List.nil_append, cntAs]; omega
  | cons x r ih => rw [List.cons_append, cntAs, cntAs, ih]; omega
theorem armsGo_mass {rec : List UInt8 → Nat → Except Bad (List Op)} (hr : RecM rec) : ∀ (n : Nat) (l : List Word) (acc r : List Arm), armsGo rec n l acc = .ok r → cntAs r ≤ cntAs acc + mWs l := by
  intro n
  induction n with
  | zero =>
    intro l acc r h
    cases l with
    | nil => simp only [armsGo] at h; cases h; omega
    | cons f l => simp only [armsGo] at h; cases h
  | succ n ih =>
    intro l acc r h
    cases l with
    | nil => simp only [armsGo] at h; cases h; omega
    | cons f l =>
      simp only [armsGo] at h
      split at h
      · cases h
      · split at h
        · cases h
        · rename_i k pt l2 hk
          have h1 := headA_mass hk
          split at h
          · cases h
          · rename_i body l3 hb1
            have h2 := bodyA_mass hr hb1
            have h3 := ih _ _ _ h
            rw [cntAs_snoc, cntA] at h3
            rw [mWs_cons]
            omega
theorem cmdOp_mass {rec : List UInt8 → Nat → Except Bad (List Op)} (hr : RecM rec) {body : Bool} {c : Cmd} {o : Op} (h : cmdOp rec body c = .ok o) : cntO o ≤ mWs c.words := by
  unfold cmdOp at h
  split at h
  · cases h
  · rename_i w0 args hws
    rw [hws, mWs_cons]
    have h1 : 1 ≤ mW w0 := by unfold mW; omega
    split at h
    · cases h
    · split at h
      · cases h
      · split at h
        · cases h
        · split at h
          · cases h
          · split at h
            · cases h; rw [cntO, cntAs]; omega
            · split at h
              · cases h
              · rename_i ws hws2
                split at h
                · cases h
                · cases h
                · rename_i rs hne hrs
                  cases h
                  have h2 := armsGo_mass hr _ _ _ _ hrs
                  rw [cntO]
                  rw [show cntAs [] = 0 by rw [cntAs]] at h2
                  have h3 : mWs ws ≤ mWs args := by
                    unfold argsA at hws2
                    split at hws2
                    · rename_i a
                      split at hws2
                      · rename_i hk
                        split at hws2
                        · cases hws2
                        · rename_i cs hcs
                          cases hws2
                          have h4 := parseAt_mass hcs
                          have h5 : mWs (cs.map Cmd.words).flatten = (cs.map (fun c => mWs c.words)).sum := by
                            clear h4 hcs hrs h2
                            induction cs with
                            | nil => rfl
                            | cons c r ih => rw [List.map_cons, List.flatten_cons, mWs_append, ih, List.map_cons, List.sum_cons]
                          rw [h5, mWs_cons]
                          unfold mW
                          rw [if_pos hk]; omega
                      · cases hws2; exact Nat.le_refl _
                    · cases hws2; exact Nat.le_refl _
                  omega
theorem cmdsGo_mass {rec : List UInt8 → Nat → Except Bad (List Op)} (hr : RecM rec) {body : Bool} : ∀ {cs : List Cmd} {acc l : List Op}, cmdsGo rec body cs acc = .ok l → cntOs l ≤ cntOs acc + (cs.map (fun c => mWs c.words)).sum := by
  intro cs
  induction cs with
  | nil => intro acc l h; simp only [cmdsGo] at h; cases h; omega
  | cons c r ih =>
    intro acc l h
    simp only [cmdsGo] at h
    split at h
    · cases h
    · rename_i o ho
      have h1 := cmdOp_mass hr ho
      have h2 := ih h
      rw [cntOs_append, cntOs, cntOs] at h2
      rw [List.map_cons, List.sum_cons]
      omega
theorem script_mass : ∀ (n : Nat) (body : Bool) (t : List UInt8) (b : Nat) (l : List Op), script n t b body = .ok l → cntOs l ≤ t.length := by
  intro n
  induction n with
  | zero => intro body t b l h; simp only [script] at h; cases h
  | succ n ih =>
    intro body t b l h
    simp only [script] at h
    split at h
    · cases h
    · rename_i cs hcs
      have h1 := cmdsGo_mass (fun u b l h => ih true u b l h) h
      have h2 := parseAt_mass hcs
      rw [cntOs] at h1
      omega
/-- A script has no more operations than bytes. -/
theorem plan_mass {s : List UInt8} {l : List Op} (h : planOf s = .ok l) : cntOs l ≤ s.length := script_mass _ _ _ _ _ h
end Plan
end Go.Proofs.Ytakcolililbkjaa
