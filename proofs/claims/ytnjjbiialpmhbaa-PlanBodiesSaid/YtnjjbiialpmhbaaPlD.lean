/- TclErr, PlParse, PlWs, PlCm: texts of mine, joined. Conditions: as they state. -/
import Derived.Test.YtnjjbiialpmhbaaTclEqs
import Derived.Test.YtnjjbiialpmhbaaPlB
import Derived.Test.YtnjjbiialpmhbaaPlC
import Derived.Test.YtnjjbiialpmhbaaPlA
set_option linter.unusedVariables false
set_option linter.unusedSimpArgs false
namespace Go.Proofs.Ytnjjbiialpmhbaa
namespace Tcl
theorem braced_err (s : List UInt8) (f : Nat) (hf : f ≤ s.length) : ∀ (k i d : Nat) (b : Bad), s.length - i ≤ k → braced s f i d = .error b → b.1 ≤ s.length := by
  intro k
  induction k with
  | zero =>
    intro i d b hk h
    rw [braced_none (List.getElem?_eq_none (by omega))] at h; cases h; exact hf
  | succ k ih =>
    intro i d b hk h
    cases hc : s[i]? with
    | none => rw [braced_none hc] at h; cases h; exact hf
    | some c =>
      have hl := lt_of_some hc
      rw [braced_some hc] at h
      split at h
      · exact ih _ _ _ (by omega) h
      · split at h
        · split at h
          · cases h; exact Nat.le_of_lt hl
          · exact ih _ _ _ (by omega) h
        · split at h
          · split at h
            · exact ih _ _ _ (by omega) h
            · cases h
          · exact ih _ _ _ (by omega) h
theorem parts_err (stop : UInt8 → Bool) (s : List UInt8) (f : Option Nat) (hf : ∀ x, f = some x → x ≤ s.length) : ∀ (k i : Nat) (l : List Part) (t : List UInt8) (b : Bad), s.length - i ≤ k → partsGo stop s f i l t = .error b → b.1 ≤ s.length := by
  intro k
  induction k with
  | zero =>
    intro i l t b hk h
    rw [parts_none (List.getElem?_eq_none (by omega))] at h; cases h
  | succ k ih =>
    intro i l t b hk h
    cases hc : s[i]? with
    | none => rw [parts_none hc] at h; cases h
    | some c =>
      have hl := lt_of_some hc
      rw [parts_some hc] at h
      split at h
      · cases h
      · split at h
        · cases h; exact Nat.le_of_lt hl
        · split at h
          · split at h
            · cases h
              cases f with
              | none => exact Nat.le_of_lt hl
              | some x => exact hf x rfl
            · split at h
              · exact ih _ _ _ _ (by omega) h
              · cases h; exact Nat.zero_le _
          · split at h
            · split at h
              · cases h; exact Nat.le_of_lt hl
              · split at h
                · exact ih _ _ _ _ (by omega) h
                · exact ih _ _ _ _ (by omega) h
            · exact ih _ _ _ _ (by omega) h
theorem behind_err {s : List UInt8} {j : Nat} {b : Bad} (h : behind s j = .error b) : b.1 ≤ s.length := by
  unfold behind at h
  split at h
  · rename_i c hc
    have := lt_of_some hc
    split at h
    · cases h
    · cases h; exact Nat.le_of_lt this
  · cases h
theorem word_err {s : List UInt8} {i : Nat} {c : UInt8} {b : Bad} (hi : i < s.length) (h : word s i c = .error b) : b.1 ≤ s.length := by
  unfold word at h
  split at h
  · split at h
    · rename_i b' hb
      cases h
      exact braced_err s i (Nat.le_of_lt hi) _ _ _ _ (Nat.le_refl _) hb
    · split at h
      · rename_i b' hb; cases h; exact behind_err hb
      · cases h
  · split at h
    · split at h
      · rename_i b' hb
        cases h
        exact parts_err _ s _ (fun x hx => by cases hx; exact Nat.le_of_lt hi) _ _ _ _ _ (Nat.le_refl _) hb
      · split at h
        · cases h; exact Nat.le_of_lt hi
        · split at h
          · rename_i b' hb; cases h; exact behind_err hb
          · cases h
    · split at h
      · rename_i b' hb
        cases h
        exact parts_err _ s _ (fun x hx => by cases hx) _ _ _ _ _ (Nat.le_refl _) hb
      · cases h
theorem command_err (s : List UInt8) : ∀ (k i : Nat) (ws : List Word) (b : Bad), s.length - i ≤ k → command s i ws = .error b → b.1 ≤ s.length := by
  intro k
  induction k with
  | zero =>
    intro i ws b hk h
    rw [command_none (List.getElem?_eq_none (by omega))] at h; cases h
  | succ k ih =>
    intro i ws b hk h
    cases hc : s[i]? with
    | none => rw [command_none hc] at h; cases h
    | some c =>
      have hl := lt_of_some hc
      rw [command_some hc] at h
      split at h
      · cases h
      · split at h
        · exact ih _ _ _ (by omega) h
        · split at h
          · rename_i b' hb; cases h; exact word_err hl hb
          · split at h
            · exact ih _ _ _ (by omega) h
            · cases h; exact Nat.zero_le _
theorem parseGo_err (s : List UInt8) : ∀ (k i : Nat) (l : List Cmd) (b : Bad), s.length - i ≤ k → parseGo s i l = .error b → b.1 ≤ s.length := by
  intro k
  induction k with
  | zero =>
    intro i l b hk h
    rw [parse_none (List.getElem?_eq_none (by omega))] at h; cases h
  | succ k ih =>
    intro i l b hk h
    cases hc : s[i]? with
    | none => rw [parse_none hc] at h; cases h
    | some c =>
      have hl := lt_of_some hc
      rw [parse_some hc] at h
      split at h
      · exact ih _ _ _ (by omega) h
      · split at h
        · split at h
          · exact ih _ _ _ (by omega) h
          · cases h; exact Nat.zero_le _
        · split at h
          · rename_i b' hb; cases h; exact command_err s _ _ _ _ (Nat.le_refl _) hb
          · split at h
            · exact ih _ _ _ (by omega) h
            · cases h; exact Nat.zero_le _
/-- An error's place is in the text. -/
theorem parse_err {s : List UInt8} {b : Bad} (h : parse s = .error b) : b.1 ≤ s.length := by
  unfold parse at h
  split at h
  · cases h; exact Nat.zero_le _
  · exact parseGo_err s _ _ _ _ (Nat.le_refl _) h
end Tcl
end Go.Proofs.Ytnjjbiialpmhbaa
namespace Go.Proofs.Ytnjjbiialpmhbaa
namespace Pl
open Go.RowKit Tcl Plan
theorem results_tmp_cell {P : Program} {fn : Func} {u p : Tmp} {ty : TypeId} (h : fn.results = #[.tmp u, .cell p ty]) (tmps : Array Value) (w : World) (g : Nat) (t : TypeId) (cs : Array Value) (fr : Nat × Nat) (d : TypeDesc)
    (hp : tmps.getD p undef = .pointer (some ⟨g, 0, none⟩)) (v : Value) (hv : tmps.getD u undef = v) (hg : w.heap[g]? = some (.cells cs t fr))
    (hu : P.underlying ty = some d) (hd : (match d with | .struct _ | .array _ _ => true | _ => false) = true) (hi : (P.info? ty).map (·.size) = some cs.size) :
    (results fn tmps).run P w = .ok (.tuple #[v, .agg cs]) w := by
  have hv' : tmps[u]?.getD undef = v := by simpa using hv
  have hp' : tmps[p]?.getD undef = .pointer (some ⟨g, 0, none⟩) := by simpa using hp
  simp [results, h, hp', hv', asAddr, run_loadVar_row w g t ty cs fr d hg hu hd hi, Result.andThen]
theorem sum_mem {α : Type} (f : α → Nat) {c : α} : ∀ {l : List α}, c ∈ l → f c ≤ (l.map f).sum := by
  intro l
  induction l with
  | nil => intro h; cases h
  | cons a r ih =>
    intro h
    rw [List.map_cons, List.sum_cons]
    rcases List.mem_cons.1 h with rfl | h
    · omega
    · have := ih h; omega
/-- Where it is wrong, as a variable. -/
def WS (w : World) (g : Nat) (p q : Int) : Prop := w.heap[g]? = some (.cells #[.int .i64 p, .int .i64 q] 58 (0, 0))
/-- What `parse` tells. -/
def PpEnd (w : World) (t : List UInt8) (b : Nat) (e : Ending) (w' : World) : Prop :=
  Chg [] w w' ∧ ((∃ cs A c xs, parseAt t b = .ok cs ∧ e = .returned (.tuple #[.slice A cs.length c, .agg #[.int .i64 0, .int .i64 0]]) ∧ Sl w' 2 (.slice A cs.length c) cs.length xs ∧ Blk w' (fun q => w.heap.size ≤ q) (.slice A cs.length c) cs.length ∧ cmdsC w' (fun q => w.heap.size ≤ q) xs cs)
    ∨ (∃ p q : Nat, parseAt t b = .error (p, q) ∧ q ≠ 0 ∧ e = .returned (.tuple #[.slice none 0 0, .agg #[.int .i64 p, .int .i64 q]])))
set_option maxRecDepth 100000 in
set_option maxHeartbeats 16000000 in
theorem pparse_any (w : World) (t : List UInt8) (b : Nat) (ht : t.length ≤ 16777216) (hb : b ≤ 1099511627776) : Calls Try.prog 27 #[.string (bstr t), .int .i64 b] w (PpEnd w t b) := by
  unfold PpEnd
  have hp := Lib.hid (parse_any (w.alloc (.cells #[.int .i64 0, .int .i64 0] 58)) t (by omega))
  have hB := Lib.hid (blk_new w (.cells #[.int .i64 0, .int .i64 0] 58))
  have hC := Lib.hid ((Chg.refl [] w).alloc (.cells #[.int .i64 0, .int .i64 0] 58))
  have hsz : w.heap.size + 1 = (w.alloc (.cells #[.int .i64 0, .int .i64 0] 58)).heap.size := (Array.size_push ..).symm
  obtain ⟨Z, hZ⟩ : ∃ Z, bstr t = Z := ⟨_, rfl⟩
  rw [hZ] at hp ⊢
  clear hZ
  replace hsz := Lib.hid hsz
  go_enter Try.func27, Try.ntmps27
  go_wp2_with fail
  generalize w.alloc _ = w1 at hp hB hC hsz ⊢
  refine (hp.out).mono ?_
  rintro e w2 ⟨hC2, hcase⟩
  clear hp
  rcases hcase with ⟨A, n, c, xs, cs, rfl, hpe, hn, hO, hX, hq, hnl⟩ | ⟨p, q, rfl, hpe, hq0⟩
  rotate_left
  · have hpl := parse_err hpe
    simp only at hpl
    have hB2 := hC2.heap hB.out (by simp)
    have hC3 := hC.out.trans hC2
    have hne : ((q : Int) != 0) = true := by simp; omega
    have hwr : IntKind.i64.wrap ((b : Int) + (p : Int)) = ((b + p : Nat) : Int) := by rw [IntWalk.i64_in _ (by omega)]; omega
    have hE : parseAt t b = .error (b + p, q) := by unfold parseAt; rw [hpe]; simp only; rw [if_neg hq0]
    replace hE := Lib.hid hE
    replace hC3 := Lib.hid hC3
    replace hq0 := Lib.hid hq0
    have hc0 : w2.cell? ⟨w.heap.size, 0, none⟩ = some (.int .i64 0) := by simp [World.cell?, hB2]
    have hc1 : w2.cell? ⟨w.heap.size, 1, none⟩ = some (.int .i64 0) := by simp [World.cell?, hB2]
    have hf0 : w2.frozen? ⟨w.heap.size, 0, none⟩ = false := by simp [World.frozen?, hB2]
    have hf1 : w2.frozen? ⟨w.heap.size, 1, none⟩ = false := by simp [World.frozen?, hB2]
    clear hpe hC2 hC hB hpl
    replace hB2 := Lib.hid hB2
    go_wp2_with fail
    have hF := (show WS _ w.heap.size ((b + p : Nat) : Int) q from blk_set (blk_set hB2.out 0 (.int .i64 ((b + p : Nat) : Int))) 1 (.int .i64 q))
    refine bodyPost_ret (v := .tuple #[.slice none 0 0, .agg #[.int .i64 ((b + p : Nat) : Int), .int .i64 q]]) ?_ rfl ⟨(hC3.out.setCell (.inr (Nat.le_refl _)) _).setCell (.inr (Nat.le_refl _)) _, .inr ⟨b + p, q, hE.out, hq0.out, rfl⟩⟩
    exact results_tmp_cell rfl _ _ _ 58 _ (0, 0) _ rfl _ rfl hF Try.underlying58 rfl (by kernel_rfl)
  · have hrow := parse_row hpe
    have hE : parseAt t b = .ok (cs.map (shiftC b)) := by unfold parseAt; rw [hpe]
    replace hE := Lib.hid hE
    have hO1 := OutI.start b hO hX (Nat.le_refl _) hC2
    replace hrow := Lib.hid hrow
    replace hO1 := Lib.hid hO1
    replace hn := Lib.hid hn
    have hnn : n ≤ 16777216 := by omega
    clear hpe hO hX hq hnl hC2
    go_wp2_with fail
    go_loopg [26] n (fun gk v26 wr => ∃ (i : Nat), v26 = .int .i64 i ∧ i ≤ n ∧ gk = n - i ∧ Hid (OutI w1 wr b w1.heap.size A n c cs i))
    case atStart => exact ⟨0, rfl, by omega, rfl, hO1⟩
    case round =>
      obtain ⟨i, rfl, hi, rfl, hI⟩ := hrel
      clear hO1
      by_cases hlt : i < n
      · have hil : i < cs.length := by have := hn.out; omega
        obtain ⟨cm, hcm⟩ : ∃ cm, cs[i]? = some cm := ⟨_, List.getElem?_eq_getElem hil⟩
        have hcmr := hrow.out.1 cm (List.mem_of_getElem? hcm)
        obtain ⟨gl, Aw, cw, rfl, q0, q1, f0, hM⟩ := hI.out.open_ hcm
        have hat : cm.at_ ≤ 16777216 := by have := hcmr.1; omega
        have hws : ∀ wd ∈ cm.words, wd.at_ ≤ 16777216 := fun wd hwd => by have := (hcmr.2.2 wd hwd).1; omega
        have hwr : IntKind.i64.wrap ((cm.at_ : Int) + (b : Int)) = (cm.at_ : Int) + (b : Int) := IntWalk.i64_in _ (by omega)
        obtain ⟨nw, hnw⟩ : ∃ nw, cm.words.length = nw := ⟨_, rfl⟩
        have hnwb : nw ≤ 16777216 := by have h1 := sum_mem (fun c : Cmd => c.words.length) (List.mem_of_getElem? hcm); have h2 := hrow.out.2.2.1; omega
        rw [hnw] at q1
        simp only [Int.natCast_add] at hM
        replace hM := Lib.hid hM
        replace hcm := Lib.hid hcm
        replace hws := Lib.hid hws
        replace hnw := Lib.hid hnw
        clear hI hcmr
        go_wp2_with fail
        generalize wr.setCell _ _ = w3 at hM ⊢
        obtain ⟨gl', e1, q1, -⟩ : ∃ gl', (some ⟨gl, 0, none⟩ : Option Addr) = some ⟨gl', 0, none⟩ ∧ w3.cell? ⟨gl', i * 2 + 1, none⟩ = some (.slice Aw nw cw) ∧ True := by
          obtain ⟨gl', e1, q1⟩ := hM.out.cell hcm.out
          exact ⟨gl', e1, by rw [← hnw.out]; exact q1, trivial⟩
        cases e1
        go_wp2_with fail
        go_loopg [44] nw (fun gk2 v44 wr => ∃ (k : Nat), v44 = .int .i64 k ∧ k ≤ nw ∧ gk2 = nw - k ∧ Hid (Mid w1 wr b w1.heap.size (some ⟨gl, 0, none⟩) n c cs i cm Aw cw k))
        case atStart => exact ⟨0, rfl, by omega, rfl, hM⟩
        case round =>
          obtain ⟨k, rfl, hk, rfl, hN⟩ := hrel
          clear hM q1
          replace hN := Lib.hid hN.out
          obtain ⟨gl', e1, q1, -⟩ : ∃ gl', (some ⟨gl, 0, none⟩ : Option Addr) = some ⟨gl', 0, none⟩ ∧ wr.cell? ⟨gl', i * 2 + 1, none⟩ = some (.slice Aw nw cw) ∧ True := by
            obtain ⟨gl', e1, q1⟩ := hN.out.cell hcm.out
            exact ⟨gl', e1, by rw [← hnw.out]; exact q1, trivial⟩
          cases e1
          by_cases hkl : k < nw
          · obtain ⟨wd, hwd⟩ : ∃ wd, cm.words[k]? = some wd := ⟨_, List.getElem?_eq_getElem (by have := hnw.out; omega)⟩
            have hwa := hws.out wd (List.mem_of_getElem? hwd)
            obtain ⟨g, rfl, q2, f2, hN2⟩ := hN.out.word hwd
            simp only [Int.natCast_add] at hN2
            replace hN2 := Lib.hid hN2
            have hwr2 : IntKind.i64.wrap ((wd.at_ : Int) + (b : Int)) = (wd.at_ : Int) + (b : Int) := IntWalk.i64_in _ (by omega)
            clear hN hwd
            go_wp2_with fail
            go_roundg (nw - (k + 1))
            case measure => omega
            case rel => exact ⟨k + 1, rfl, by omega, rfl, hN2⟩
          · obtain rfl : k = nw := by omega
            have hN3 := hN.out
            rw [← hnw.out] at hN3
            have hI := Lib.hid (hN3.close hcm.out)
            clear hN hN3
            go_wp2_with fail
            go_roundg (n - (i + 1))
            case measure => omega
            case rel => exact ⟨i + 1, rfl, by omega, rfl, hI⟩
      · obtain rfl : i = n := by omega
        have hI2 := hI.out
        rw [hn.out] at hI2
        obtain ⟨ys, hS, hBk, hcs, hCw⟩ := hI2.done rfl
        have hB2 := Lib.hid (hCw.heap hB.out (by simp))
        have hc0 : wr.cell? ⟨w.heap.size, 0, none⟩ = some (.int .i64 0) := by simp [World.cell?, hB2.out]
        have hc1 : wr.cell? ⟨w.heap.size, 1, none⟩ = some (.int .i64 0) := by simp [World.cell?, hB2.out]
        have hf0 : wr.frozen? ⟨w.heap.size, 0, none⟩ = false := by simp [World.frozen?, hB2.out]
        have hf1 : wr.frozen? ⟨w.heap.size, 1, none⟩ = false := by simp [World.frozen?, hB2.out]
        replace hC := Lib.hid (hC.out.trans hCw)
        replace hS := Lib.hid hS
        replace hBk := Lib.hid hBk
        replace hcs := Lib.hid hcs
        clear hI hI2 hCw hB
        go_wp2_with fail
        have hF := (show WS _ w.heap.size 0 0 from blk_set (blk_set hB2.out 0 (.int .i64 0)) 1 (.int .i64 0))
        have h3 := (((Chg.refl [w.heap.size] wr).setCell (p := ⟨w.heap.size, 0, none⟩) (.inl (by simp)) (.int .i64 0)).setCell (p := ⟨w.heap.size, 1, none⟩) (.inl (by simp)) (.int .i64 0))
        have hlo : w.heap.size < w1.heap.size := by have := hsz.out; omega
        have hne : ∀ q, w1.heap.size ≤ q → q ∉ [w.heap.size] := fun q hq hm => by simp at hm; omega
        have e0 : (cs.map (shiftC b)).length = i := by rw [List.length_map]; exact hn.out.symm
        have hS' := hS.out
        have hBk' := hBk.out
        have hlen := hn.out
        rw [← hlen] at hS' hBk'
        refine bodyPost_ret (v := .tuple #[.slice A i c, .agg #[.int .i64 0, .int .i64 0]]) ?_ rfl ⟨(hC.out.setCell (.inr (Nat.le_refl _)) _).setCell (.inr (Nat.le_refl _)) _, .inl ⟨cs.map (shiftC b), A, c, ys, hE.out, by rw [e0], by rw [e0]; exact hS'.chg h3 (fun h0 q hq => hne q (hBk' q (by have := hS'.len; omega) hq).1), by rw [e0]; exact (hBk'.chg h3).imp (fun q (hq : w1.heap.size ≤ q) _ => show w.heap.size ≤ q by omega), cmdsC.imp (fun q hq _ => by have := hq.1; omega) (cmdsC.chg h3 (fun q hq _ => hne q hq.1) hcs.out)⟩⟩
        exact results_tmp_cell rfl _ _ _ 58 _ (0, 0) _ rfl _ rfl hF Try.underlying58 rfl (by kernel_rfl)
end Pl
end Go.Proofs.Ytnjjbiialpmhbaa
namespace Go.Proofs.Ytnjjbiialpmhbaa
namespace Pl
open Go.RowKit Tcl Plan
theorem Try.info_word' : (Try.prog.info? 35).map (fun i => (i.zero, i.size, i.bytes)) = some (some (.agg #[.int .i64 0, .int .i64 0, .slice none 0 0]), 3, 40) := by kernel_rfl
/-- Words in a slice. -/
def WsV (w : World) (B : Nat → Prop) (A : Option Addr) (n c : Nat) (ws : List Word) : Prop := n = ws.length ∧ ∃ ys, Sl w 3 (.slice A n c) n ys ∧ Blk w B (.slice A n c) n ∧ wordsC w B ys ws
theorem WsV.chg {S : List Nat} {w w' : World} {B : Nat → Prop} {A : Option Addr} {n c : Nat} {ws : List Word} (h : WsV w B A n c ws) (hc : Chg S w w') (hS : ∀ q, B q → q < w.heap.size → q ∉ S) : WsV w' B A n c ws := by
  obtain ⟨h0, ys, h1, h2, h3⟩ := h
  have hl := h1.len
  exact ⟨h0, ys, h1.chg hc (fun hx q hq => hS q (h2 q (by omega) hq).1 (h2 q (by omega) hq).2), h2.chg hc, wordsC.chg hc hS h3⟩
theorem WsV.imp {w : World} {B B' : Nat → Prop} {A : Option Addr} {n c : Nat} {ws : List Word} (h : WsV w B A n c ws) (hi : ∀ q, B q → q < w.heap.size → B' q) : WsV w B' A n c ws := by
  obtain ⟨h0, ys, h1, h2, h3⟩ := h
  exact ⟨h0, ys, h1, h2.imp hi, wordsC.imp hi h3⟩
theorem WsV.max {w : World} {B : Nat → Prop} {A : Option Addr} {n c : Nat} {ws : List Word} (h : WsV w B A n c ws) : n ≤ 9223372036854775807 := by
  obtain ⟨h0, ys, ⟨A0, c0, e, k0, k1, k2, k3⟩, h2, h3⟩ := h
  simp only [Value.slice.injEq] at e
  obtain ⟨rfl, -, rfl⟩ := e
  unfold maxLen at k2
  omega
/-- The first word of a slice. -/
theorem WsV.head {w : World} {B : Nat → Prop} {A : Option Addr} {n c : Nat} {wd : Word} {r : List Word} (h : WsV w B A n c (wd :: r)) :
    ∃ b o Ap cp, A = some ⟨b, o, none⟩ ∧ w.cell? ⟨b, o, none⟩ = some (.int .i64 wd.at_) ∧ w.cell? ⟨b, o + 1, none⟩ = some (.int .i64 wd.kind) ∧ w.cell? ⟨b, o + 2, none⟩ = some (.slice Ap wd.parts.length cp) ∧
      PartsAt w (.slice Ap wd.parts.length cp) wd.parts ∧ Blk w B (.slice Ap wd.parts.length cp) wd.parts.length ∧ wd.parts.length ≤ 9223372036854775807 := by
  obtain ⟨h0, ys, h1, h2, h3⟩ := h
  have hl := wordsC.len h3
  obtain ⟨b, o, rfl, hr⟩ := sl_row h1 (by rw [hl, List.length_cons]; omega)
  obtain ⟨Ap, cp, e1, e2, e3, h4, h5⟩ := wordsC.get (k := 0) h3 rfl
  refine ⟨b, o, Ap, cp, rfl, hr 0 _ e1, hr 1 _ e2, hr 2 _ e3, h4, h5, ?_⟩
  obtain ⟨A0, c0, e, k0, k1, k2, k3⟩ := h4
  simp only [Value.slice.injEq] at e
  obtain ⟨rfl, -, rfl⟩ := e
  unfold maxLen at k2
  omega
theorem WsV.tail {w : World} {B : Nat → Prop} {A : Option Addr} {n c : Nat} {wd : Word} {r : List Word} (h : WsV w B A n c (wd :: r)) :
    ∃ A' c', (∀ w' : World, (Instr.slice 30 (.slice A n c) (some (.int .i64 1)) none none).run Try.prog w' = .ok (.slice A' r.length c') w') ∧ WsV w B A' r.length c' r := by
  obtain ⟨h0, ys, h1, h2, h3⟩ := h
  rw [List.length_cons] at h0
  obtain ⟨A', c', hs, hS, hbk⟩ := slice_from (P := Try.prog) 30 35 Try.underlying30 Try.info_word' h1 1 (by omega) r.length (by omega)
  obtain ⟨p, t, rfl, h4, h5⟩ := h3
  have hl := h4.len
  refine ⟨A', c', hs, rfl, t, ?_, fun q hq0 hq => ?_, h5⟩
  · have e : (p ++ t).drop ((1 : Int).toNat * 3) = t := by rw [show (1 : Int).toNat * 3 = p.length from hl.symm, List.drop_left]
    rw [e] at hS
    exact hS
  · rw [hbk] at hq
    exact h2 q (by omega) hq
/-- Words within bounds. -/
def Wd (L M : Nat) (ws : List Word) : Prop := ∀ wd ∈ ws, wd.at_ ≤ M ∧ (wd.kind = 2 → (openT wd).length < L ∧ wd.at_ + 1 + (openT wd).length ≤ M)
theorem Wd.tail {L M : Nat} {wd : Word} {r : List Word} (h : Wd L M (wd :: r)) : Wd L M r := fun x hx => h x (by simp [hx])
/-- What `script` tells. -/
def ScEnd (w : World) (r : Except Bad (List Plan.Op)) (e : Ending) (w' : World) : Prop :=
  Chg [] w w' ∧ ((∃ l A c, r = .ok l ∧ e = .returned (.tuple #[.slice A (List.length l) c, .agg #[.int .i64 0, .int .i64 0]]) ∧ OpsV w' (fun q => w.heap.size ≤ q) (.slice A (List.length l) c) l)
    ∨ (∃ p q : Nat, r = .error (p, q) ∧ q ≠ 0 ∧ e = .returned (.tuple #[.slice none 0 0, .agg #[.int .i64 p, .int .i64 q]])))
/-- What `list` tells. -/
def LiEnd (w : World) (B : Nat → Prop) (r : Except Bad (List Arm)) (e : Ending) (w' : World) : Prop :=
  Chg [] w w' ∧ ((∃ l A c zs, r = .ok l ∧ e = .returned (.tuple #[.slice A (List.length l) c, .agg #[.int .i64 0, .int .i64 0]]) ∧ Sl w' 5 (.slice A (List.length l) c) l.length zs ∧ Blk w' B (.slice A (List.length l) c) l.length ∧ armsC w' B zs l)
    ∨ (∃ p q : Nat, r = .error (p, q) ∧ q ≠ 0 ∧ e = .returned (.tuple #[.slice none 0 0, .agg #[.int .i64 p, .int .i64 q]])))
/-- What `command` tells. -/
def CoEnd (w : World) (B : Nat → Prop) (r : Except Bad Plan.Op) (e : Ending) (w' : World) : Prop :=
  Chg [] w w' ∧ ((∃ o v0 v1 v2 v3, r = .ok o ∧ e = .returned (.tuple #[.agg #[v0, v1, v2, v3], .agg #[.int .i64 0, .int .i64 0]]) ∧ opC w' B [v0, v1, v2, v3] o)
    ∨ (∃ p q : Nat, r = .error (p, q) ∧ q ≠ 0 ∧ e = .returned (.tuple #[.agg #[.int .i64 0, .int .i64 0, .slice none 0 0, .slice none 0 0], .agg #[.int .i64 p, .int .i64 q]])))
/-- `script` tells what `rec` says, of texts shorter than `L` that end at `M` at most. -/
def RecOk (rec : List UInt8 → Nat → Except Bad (List Plan.Op)) (L M : Nat) : Prop :=
  ∀ (W : World) (u : List UInt8) (b : Nat), u.length < L → b + u.length ≤ M → Calls Try.prog 17 #[.string (bstr u), .int .i64 b, .bool true] W (ScEnd W (rec u b))
/-- An arm as a variable. -/
def AS (w : World) (g : Nat) (k a d : Int) (s b : Value) : Prop := w.heap[g]? = some (.cells #[.int .i64 k, .int .i64 a, .int .i64 d, s, b] 43 (0, 0))
/-- A word as a variable. -/
def VS (w : World) (g : Nat) (a d : Int) (s : Value) : Prop := w.heap[g]? = some (.cells #[.int .i64 a, .int .i64 d, s] 35 (0, 0))
theorem AS.c0 {w : World} {g : Nat} {k a d : Int} {s b : Value} (h : AS w g k a d s b) : w.cell? ⟨g, 0, none⟩ = some (.int .i64 k) ∧ w.cell? ⟨g, 1, none⟩ = some (.int .i64 a) ∧ w.cell? ⟨g, 2, none⟩ = some (.int .i64 d) ∧ w.cell? ⟨g, 3, none⟩ = some s ∧ w.cell? ⟨g, 4, none⟩ = some b := by
  unfold AS at h; simp [World.cell?, h]
theorem AS.f0 {w : World} {g : Nat} {k a d : Int} {s b : Value} (h : AS w g k a d s b) (j : Nat) : w.frozen? ⟨g, j, none⟩ = false := by unfold AS at h; simp [World.frozen?, h]
theorem VS.c0 {w : World} {g : Nat} {a d : Int} {s : Value} (h : VS w g a d s) : w.cell? ⟨g, 0, none⟩ = some (.int .i64 a) ∧ w.cell? ⟨g, 1, none⟩ = some (.int .i64 d) ∧ w.cell? ⟨g, 2, none⟩ = some s := by
  unfold VS at h; simp [World.cell?, h]
theorem WS.c0 {w : World} {g : Nat} {p q : Int} (h : WS w g p q) : w.cell? ⟨g, 0, none⟩ = some (.int .i64 p) ∧ w.cell? ⟨g, 1, none⟩ = some (.int .i64 q) := by
  unfold WS at h; simp [World.cell?, h]
theorem WS.f0 {w : World} {g : Nat} {p q : Int} (h : WS w g p q) (j : Nat) : w.frozen? ⟨g, j, none⟩ = false := by unfold WS at h; simp [World.frozen?, h]
theorem WS.put {w : World} {g : Nat} {p q : Int} (h : WS w g p q) (p' q' : Int) : WS ((w.setCell ⟨g, 0, none⟩ (.int .i64 p')).setCell ⟨g, 1, none⟩ (.int .i64 q')) g p' q' := blk_set (blk_set h 0 (.int .i64 p')) 1 (.int .i64 q')
theorem AS.put5 {w : World} {g : Nat} {k a d : Int} {s b : Value} (h : AS w g k a d s b) (k' a' d' : Int) (s' b' : Value) : AS (((((w.setCell ⟨g, 0, none⟩ (.int .i64 k')).setCell ⟨g, 1, none⟩ (.int .i64 a')).setCell ⟨g, 2, none⟩ (.int .i64 d')).setCell ⟨g, 3, none⟩ s').setCell ⟨g, 4, none⟩ b') g k' a' d' s' b' :=
  blk_set (blk_set (blk_set (blk_set (blk_set h 0 (.int .i64 k')) 1 (.int .i64 a')) 2 (.int .i64 d')) 3 s') 4 b'
theorem AS.put3 {w : World} {g : Nat} {k a d : Int} {s b : Value} (h : AS w g k a d s b) (a' d' : Int) (s' : Value) : AS (((w.setCell ⟨g, 1, none⟩ (.int .i64 a')).setCell ⟨g, 2, none⟩ (.int .i64 d')).setCell ⟨g, 3, none⟩ s') g k a' d' s' b :=
  blk_set (blk_set (blk_set h 1 (.int .i64 a')) 2 (.int .i64 d')) 3 s'
theorem AS.put1 {w : World} {g : Nat} {k a d : Int} {s b : Value} (h : AS w g k a d s b) (b' : Value) : AS (w.setCell ⟨g, 4, none⟩ b') g k a d s b' := blk_set h 4 b'
theorem Chg_setRow {S : List Nat} {a b : World} (h : Chg S a b) {g : Nat} (hg : g ∈ S ∨ a.heap.size ≤ g) (cs : Array Value) : Chg S a (b.setRow g cs) := by
  refine ⟨h.os, h.tape, h.output, by simpa using h.size, fun k hk hn => ?_⟩
  have hne : g ≠ k := by
    rintro rfl
    rcases hg with h1 | h1
    · exact hn h1
    · omega
  rw [← h.block k hk hn]
  simp only [World.setRow, Array.getElem?_modify]
  rw [if_neg hne]
theorem Try.size_arm : (Try.prog.info? 43).map (·.size) = some 5 := by kernel_rfl
theorem wpList_store_arm {ops : Array Oper} {rest : List Oper} {o : Oper} {a : Act} {w : World} {Q : Exit → Act → World → Prop} (hgd : o.guard = none) (x y : Operand) (ho : o.op = .store 43 x y) (g : Nat) (k c d : Int) (s b : Value)
    (hs : s.oneCell' = true) (hb : b.oneCell' = true) (hx : a.eval x = .pointer (some ⟨g, 0, none⟩)) (hy : a.eval y = .agg #[.int .i64 k, .int .i64 c, .int .i64 d, s, b]) {k0 c0 d0 : Int} {s0 b0 : Value} (hg : AS w g k0 c0 d0 s0 b0)
    (h : wpList Try.prog ops Q rest (a.put o.dst undef) (w.setRow g #[.int .i64 k, .int .i64 c, .int .i64 d, s, b])) : wpList Try.prog ops Q (o :: rest) a w :=
  wpList_store_row hgd 43 x y ho g #[.int .i64 k, .int .i64 c, .int .i64 d, s, b] hx hy 43 _ hg Try.size_arm rfl (by rw [Array.all_eq_true']; intro v hv; simp at hv; rcases hv with rfl | rfl | rfl | rfl | rfl <;> first | rfl | exact hs | exact hb) h
theorem WS.chg {S : List Nat} {w w' : World} {g : Nat} {p q : Int} (h : WS w g p q) (hc : Chg S w w') (hg : g ∉ S) : WS w' g p q := hc.heap h hg
theorem AS.chg {S : List Nat} {w w' : World} {g : Nat} {k a d : Int} {s b : Value} (h : AS w g k a d s b) (hc : Chg S w w') (hg : g ∉ S) : AS w' g k a d s b := hc.heap h hg
theorem VS.chg {S : List Nat} {w w' : World} {g : Nat} {a d : Int} {s : Value} (h : VS w g a d s) (hc : Chg S w w') (hg : g ∉ S) : VS w' g a d s := hc.heap h hg
/-- What `script` has told, later on: what it made lies from `base` on, and not at `g`. -/
def ScO (wx : World) (base g : Nat) (r : Except Bad (List Plan.Op)) (V : Value) (p q : Nat) : Prop :=
  (∃ l A c, r = .ok l ∧ V = .slice A (List.length l) c ∧ p = 0 ∧ q = 0 ∧ OpsV wx (fun x => base ≤ x ∧ x ≠ g) (.slice A (List.length l) c) l) ∨ (r = .error (p, q) ∧ q ≠ 0 ∧ V = .slice none 0 0)
theorem ScEnd.some {w : World} {r : Except Bad (List Plan.Op)} {e : Ending} {w' : World} (h : ScEnd w r e w') : Chg [] w w' ∧ ∃ V p q, e = .returned (.tuple #[V, .agg #[.int .i64 ((p : Nat) : Int), .int .i64 ((q : Nat) : Int)]]) ∧
    ∀ (base g : Nat) (S : List Nat) (wx : World), base ≤ w.heap.size → Chg S w' wx → (∀ k ∈ S, k < w.heap.size ∨ w'.heap.size ≤ k) → (g < w.heap.size ∨ w'.heap.size ≤ g) → ScO wx base g r V p q := by
  obtain ⟨hC, ⟨l, A, c, h1, rfl, h2⟩ | ⟨p, q, h1, h2, rfl⟩⟩ := h
  · refine ⟨hC, _, 0, 0, rfl, fun base g S wx hb hc hS hg => .inl ⟨l, A, c, h1, rfl, rfl, rfl, ?_⟩⟩
    exact (OpsV.imp (B' := fun x => w.heap.size ≤ x ∧ x < w'.heap.size) h2 (fun q hq hl => ⟨hq, hl⟩)).chg hc (fun q hq _ hm => by rcases hS q hm with h | h <;> omega) |>.imp (fun q hq _ => ⟨by omega, by rcases hg with h | h <;> omega⟩)
  · exact ⟨hC, _, p, q, rfl, fun base g S wx hb hc hS hg => .inr ⟨h1, h2, rfl⟩⟩
end Pl
end Go.Proofs.Ytnjjbiialpmhbaa
namespace Go.Proofs.Ytnjjbiialpmhbaa
namespace Pl
open Go.RowKit Tcl Plan
theorem Try.size_op : (Try.prog.info? 41).map (·.size) = some 4 := by kernel_rfl
/-- An operation as a variable. -/
def OS (w : World) (g : Nat) (k a : Int) (s b : Value) : Prop := w.heap[g]? = some (.cells #[.int .i64 k, .int .i64 a, s, b] 41 (0, 0))
/-- A form as a variable. -/
def FS (w : World) (g : Nat) (k lo hi : Int) : Prop := w.heap[g]? = some (.cells #[.int .i64 k, .int .i64 lo, .int .i64 hi] 87 (0, 0))
theorem OS.chg {S : List Nat} {w w' : World} {g : Nat} {k a : Int} {s b : Value} (h : OS w g k a s b) (hc : Chg S w w') (hg : g ∉ S) : OS w' g k a s b := hc.heap h hg
theorem FS.chg {S : List Nat} {w w' : World} {g : Nat} {k a d : Int} (h : FS w g k a d) (hc : Chg S w w') (hg : g ∉ S) : FS w' g k a d := hc.heap h hg
theorem FS.c0 {w : World} {g : Nat} {k a d : Int} (h : FS w g k a d) : w.cell? ⟨g, 0, none⟩ = some (.int .i64 k) ∧ w.cell? ⟨g, 1, none⟩ = some (.int .i64 a) ∧ w.cell? ⟨g, 2, none⟩ = some (.int .i64 d) := by
  unfold FS at h; simp [World.cell?, h]
theorem op_one {k a : Int} {s b : Value} (hs : s.oneCell' = true) (hb : b.oneCell' = true) : (#[Value.int .i64 k, .int .i64 a, s, b]).all (·.oneCell') = true := by
  rw [Array.all_eq_true']; intro v hv; simp at hv; rcases hv with rfl | rfl | rfl | rfl <;> first | rfl | exact hs | exact hb
theorem wpList_store_op {ops : Array Oper} {rest : List Oper} {o : Oper} {a : Act} {w : World} {Q : Exit → Act → World → Prop} (hgd : o.guard = none) (x y : Operand) (ho : o.op = .store 41 x y) (g : Nat) (k c : Int) (s b : Value)
    (hs : s.oneCell' = true) (hb : b.oneCell' = true) (hx : a.eval x = .pointer (some ⟨g, 0, none⟩)) (hy : a.eval y = .agg #[.int .i64 k, .int .i64 c, s, b]) {k0 c0 : Int} {s0 b0 : Value} (hg : OS w g k0 c0 s0 b0)
    (h : wpList Try.prog ops Q rest (a.put o.dst undef) (w.setRow g #[.int .i64 k, .int .i64 c, s, b])) : wpList Try.prog ops Q (o :: rest) a w :=
  wpList_store_row hgd 41 x y ho g #[.int .i64 k, .int .i64 c, s, b] hx hy 41 _ hg Try.size_op rfl (op_one hs hb) h
theorem wp_store_op {o : Oper} {a : Act} {w : World} {K : Act → World → Prop} {Q : Exit → Act → World → Prop} (x y : Operand) (ho : o.op = .store 41 x y) (g : Nat) (k c : Int) (s b : Value)
    (hs : s.oneCell' = true) (hb : b.oneCell' = true) (hx : a.eval x = .pointer (some ⟨g, 0, none⟩)) (hy : a.eval y = .agg #[.int .i64 k, .int .i64 c, s, b]) {k0 c0 : Int} {s0 b0 : Value} (hg : OS w g k0 c0 s0 b0)
    (h : K (a.put o.dst undef) (w.setRow g #[.int .i64 k, .int .i64 c, s, b])) : o.wp Try.prog a w K Q :=
  wp_store_row 41 x y ho g #[.int .i64 k, .int .i64 c, s, b] hx hy 41 _ hg Try.size_op rfl (op_one hs hb) h
theorem OS.put {w : World} {g : Nat} {k a : Int} {s b : Value} (h : OS w g k a s b) (k' a' : Int) (s' b' : Value) : OS (w.setRow g #[.int .i64 k', .int .i64 a', s', b']) g k' a' s' b' := setRow_heap _ _ _ _ _ _ h
theorem results_cell_cell {P : Program} {fn : Func} {u p : Tmp} {ty0 ty : TypeId} (h : fn.results = #[.cell u ty0, .cell p ty]) (tmps : Array Value) (w : World) (g0 g : Nat) (t0 t : TypeId) (cs0 cs : Array Value) (d0 d : TypeDesc)
    (hp0 : tmps.getD u undef = .pointer (some ⟨g0, 0, none⟩)) (hp : tmps.getD p undef = .pointer (some ⟨g, 0, none⟩)) (hg0 : w.heap[g0]? = some (.cells cs0 t0 (0, 0))) (hg : w.heap[g]? = some (.cells cs t (0, 0)))
    (hu0 : P.underlying ty0 = some d0) (hd0 : (match d0 with | .struct _ | .array _ _ => true | _ => false) = true) (hi0 : (P.info? ty0).map (·.size) = some cs0.size)
    (hu : P.underlying ty = some d) (hd : (match d with | .struct _ | .array _ _ => true | _ => false) = true) (hi : (P.info? ty).map (·.size) = some cs.size) :
    (results fn tmps).run P w = .ok (.tuple #[.agg cs0, .agg cs]) w := by
  have hp0' : tmps[u]?.getD undef = .pointer (some ⟨g0, 0, none⟩) := by simpa using hp0
  have hp' : tmps[p]?.getD undef = .pointer (some ⟨g, 0, none⟩) := by simpa using hp
  simp [results, h, hp', hp0', asAddr, run_loadVar_row w g0 t0 ty0 cs0 (0, 0) d0 hg0 hu0 hd0 hi0, run_loadVar_row w g t ty cs (0, 0) d hg hu hd hi, Result.andThen]
/-- What `forms` tells of a name. -/
theorem form_look (s : List UInt8) : lookB (bstr s) formsB = (formOf s).map (fun x => .agg #[.int .i64 (x.1 : Int), .int .i64 (x.2.1 : Int), .int .i64 (x.2.2 : Int)]) := by
  rw [formOf, ← lookB_look s formL (fun x => Value.agg #[.int .i64 (x.1 : Int), .int .i64 (x.2.1 : Int), .int .i64 (x.2.2 : Int)])]; rfl
theorem look_mem {α : Type} {s : List UInt8} {a : α} : ∀ {l : List (List UInt8 × α)}, Plan.look s l = some a → ∃ k, (k, a) ∈ l := by
  intro l
  induction l with
  | nil => intro h; cases h
  | cons p r ih =>
    intro h
    rw [Plan.look] at h
    split at h
    · cases h; exact ⟨p.1, by simp⟩
    · obtain ⟨k, hk⟩ := ih h; exact ⟨k, by simp [hk]⟩
theorem form_bounds {s : List UInt8} {k lo hi : Nat} (h : formOf s = some (k, lo, hi)) : k ≤ 8 ∧ lo ≤ 2 ∧ hi ≤ 1073741824 := by
  obtain ⟨n, hm⟩ := look_mem h
  simp [formL] at hm
  omega
/-- An expect's words are within bounds. -/
theorem argsA_wd {L M : Nat} {args ws : List Word} (hw : Wd L M args) (h : argsA args = .ok ws) : Wd L M ws := by
  unfold argsA at h
  split at h
  · rename_i a
    split at h
    · rename_i hk
      obtain ⟨h1, h2⟩ := hw a (by simp)
      obtain ⟨h3, h4⟩ := h2 hk
      split at h
      · cases h
      · rename_i l hp
        cases h
        intro wd hwd
        obtain ⟨xs, k1, k2⟩ := List.mem_flatten.1 hwd
        obtain ⟨c, k3, rfl⟩ := List.mem_map.1 k1
        unfold parseAt at hp
        split at hp
        · cases hp
        · rename_i cs hcs
          cases hp
          obtain ⟨c0, k4, rfl⟩ := List.mem_map.1 k3
          obtain ⟨w0, k5, rfl⟩ := List.mem_map.1 k2
          have hin := ((parse_row hcs).1 c0 k4).2.2 w0 k5
          have i1 := hin.1
          refine ⟨by simp only [shiftW]; omega, fun hk2 => ?_⟩
          have i2 := hin.2 hk2
          rw [openT_sh]
          simp only [shiftW]
          omega
    · cases h; exact hw
  · cases h; exact hw
/-- How many words. -/
theorem flat_le {t : List UInt8} {b : Nat} {cs : List Cmd} (h : parseAt t b = .ok cs) : (cs.map (fun c => c.words.length)).sum ≤ t.length := by
  unfold parseAt at h
  split at h
  · cases h
  · rename_i l hp
    cases h
    have := (parse_row hp).2.2.1
    rw [List.map_map]
    have e : (fun c : Cmd => c.words.length) ∘ shiftC b = fun c => c.words.length := by funext c; simp [shiftC]
    rw [e]; exact this
/-- An expect of these arms. -/
def expA (at_ : Nat) : Except Bad (List Arm) → Except Bad Plan.Op
  | .error b => .error b
  | .ok [] => .error (at_, 2)
  | .ok (a :: r) => .ok (.mk 3 at_ [] (a :: r))
/-- Commands in a slice. -/
def CmV (w : World) (B : Nat → Prop) (v : Value) (cs : List Cmd) : Prop := ∃ xs, Sl w 2 v cs.length xs ∧ Blk w B v cs.length ∧ cmdsC w B xs cs
theorem CmV.chg {S : List Nat} {w w' : World} {B : Nat → Prop} {v : Value} {l : List Cmd} (h : CmV w B v l) (hc : Chg S w w') (hS : ∀ q, B q → q < w.heap.size → q ∉ S) : CmV w' B v l := by
  obtain ⟨xs, h1, h2, h3⟩ := h
  have l1 := h1.len
  exact ⟨xs, h1.chg hc (fun h0 q hq => hS q (h2 q (by omega) hq).1 (h2 q (by omega) hq).2), h2.chg hc, cmdsC.chg hc hS h3⟩
theorem CmV.imp {w : World} {B B' : Nat → Prop} {v : Value} {l : List Cmd} (h : CmV w B v l) (hi : ∀ q, B q → q < w.heap.size → B' q) : CmV w B' v l := by
  obtain ⟨xs, h1, h2, h3⟩ := h
  exact ⟨xs, h1, h2.imp hi, cmdsC.imp hi h3⟩
/-- What `parse` has told, later on. -/
def PpO (wx : World) (base g : Nat) (r : Except Bad (List Cmd)) (V : Value) (p q : Nat) : Prop :=
  (∃ l A c, r = .ok l ∧ V = .slice A (List.length l) c ∧ p = 0 ∧ q = 0 ∧ CmV wx (fun x => base ≤ x ∧ x ≠ g) (.slice A (List.length l) c) l) ∨ (r = .error (p, q) ∧ q ≠ 0 ∧ V = .slice none 0 0)
theorem PpEnd.some {w : World} {t : List UInt8} {b : Nat} {e : Ending} {w' : World} (h : PpEnd w t b e w') : Chg [] w w' ∧ ∃ V p q, e = .returned (.tuple #[V, .agg #[.int .i64 ((p : Nat) : Int), .int .i64 ((q : Nat) : Int)]]) ∧
    ∀ (base g : Nat) (S : List Nat) (wx : World), base ≤ w.heap.size → Chg S w' wx → (∀ k ∈ S, k < w.heap.size ∨ w'.heap.size ≤ k) → (g < w.heap.size ∨ w'.heap.size ≤ g) → PpO wx base g (parseAt t b) V p q := by
  obtain ⟨hC, ⟨l, A, c, xs, h1, rfl, h2⟩ | ⟨p, q, h1, h2, rfl⟩⟩ := h
  · refine ⟨hC, _, 0, 0, rfl, fun base g S wx hb hc hS hg => .inl ⟨l, A, c, h1, rfl, rfl, rfl, ?_⟩⟩
    exact (CmV.imp (B' := fun x => w.heap.size ≤ x ∧ x < w'.heap.size) ⟨xs, h2⟩ (fun q hq hl => ⟨hq, hl⟩)).chg hc (fun q hq _ hm => by rcases hS q hm with h | h <;> omega) |>.imp (fun q hq _ => ⟨by omega, by rcases hg with h | h <;> omega⟩)
  · exact ⟨hC, _, p, q, rfl, fun base g S wx hb hc hS hg => .inr ⟨h1, h2, rfl⟩⟩
/-- Words' cells are single. -/
theorem wordsC.one {w : World} {B : Nat → Prop} : ∀ {ws : List Word} {xs : List Value}, wordsC w B xs ws → ∀ u ∈ xs, u.oneCell' = true := by
  intro ws
  induction ws with
  | nil => intro xs h u hu; rw [show xs = [] from h] at hu; cases hu
  | cons wd r ih =>
    intro xs h u hu
    obtain ⟨a, t, rfl, ⟨A, c, rfl, -⟩, h3⟩ := h
    rcases List.mem_append.1 hu with hu | hu
    · simp at hu
      rcases hu with rfl | rfl | rfl <;> rfl
    · exact ih h3 u hu
theorem sum_take_le (f : Cmd → Nat) (cs : List Cmd) (i : Nat) : ((cs.take i).map f).sum ≤ (cs.map f).sum := by
  have : cs.map f = (cs.take i).map f ++ (cs.drop i).map f := by rw [← List.map_append, List.take_append_drop]
  rw [this, List.sum_append]; omega
theorem flat_len (cs : List Cmd) : (cs.map Cmd.words).flatten.length = (cs.map (fun c => c.words.length)).sum := by
  rw [List.length_flatten, List.map_map]; rfl
theorem flat_succ {cs : List Cmd} {i : Nat} {cm : Cmd} (h : cs[i]? = some cm) : ((cs.take (i + 1)).map Cmd.words).flatten = ((cs.take i).map Cmd.words).flatten ++ cm.words := by
  rw [List.take_add_one, h]; simp
end Pl
end Go.Proofs.Ytnjjbiialpmhbaa
