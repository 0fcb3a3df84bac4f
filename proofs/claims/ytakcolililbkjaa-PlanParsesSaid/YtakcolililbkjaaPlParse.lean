/- Contract of package plan's parse: commands, their places turned where they lie. Conditions: as it states. -/
import Derived.Test.YtakcolililbkjaaPlPar
import Derived.Test.YtakcolililbkjaaPlTurn
import Derived.Test.YtakcolililbkjaaTclErr
import Derived.Test.YtakcolililbkjaaPlRow
set_option linter.unusedVariables false
set_option linter.unusedSimpArgs false
namespace Go.Proofs.Ytakcolililbkjaa
namespace Pl
open Go.RowKit Tcl Plan
theorem results_tmp_cell {P : Program} {fn : Func} {u p : Tmp} {ty : TypeId} (h : fn.results = #[.tmp u, .cell p ty]) (tmps : Array Value) (w : World) (g : Nat) (t : TypeId) (cs : Array Value) (fr : Nat × Nat) (d : TypeDesc)
    (hp : tmps.getD p undef = .pointer (some ⟨g, 0, none⟩)) (v : Value) (hv : tmps.getD u undef = v) (hg : w.heap[g]? = some (.cells cs t fr))
    (hu : P.underlying ty = some d) (hd : (match d with | .struct _ | .array _ _ => true | _ => false) = true) (hi : (P.info? ty).map (·.size) = some cs.size) :
    (results fn tmps).run P w = .ok (.tuple #[v, .agg cs]) w := by
  have hv' : tmps[u]?.getD undef = v := by simpa using hv
  have hp' : tmps[p]?.getD undef = .pointer (some ⟨g, 0, none⟩) := by simpa using hp
  simp [results, h, hp', hv', asAddr, run_loadVar_row w g t ty cs fr d hg hu hd hi, Result.andThen]
theorem sum_mem {α : Type} (f : α → Nat) {c : α} : ∀ {l : List α}, c ∈ l → f c ≤ (l.map f).sum := by
  intro l
  induction l with
  | nil => intro h; cases h
  | cons a r ih =>
    intro h
    rw [List.map_cons, List.sum_cons]
    rcases List.mem_cons.1 h with rfl | h
    · omega
    · have := ih h; omega
/-- Where it is wrong, as a variable. -/
def WS (w : World) (g : Nat) (p q : Int) : Prop := w.heap[g]? = some (.cells #[.int .i64 p, .int .i64 q] 55 (0, 0))
/-- What `parse` tells. -/
def PpEnd (w : World) (t : List UInt8) (b : Nat) (e : Ending) (w' : World) : Prop :=
  Chg [] w w' ∧ ((∃ cs A c xs, parseAt t b = .ok cs ∧ e = .returned (.tuple #[.slice A cs.length c, .agg #[.int .i64 0, .int .i64 0]]) ∧ Sl w' 2 (.slice A cs.length c) cs.length xs ∧ Blk w' (fun q => w.heap.size ≤ q) (.slice A cs.length c) cs.length ∧ cmdsC w' (fun q => w.heap.size ≤ q) xs cs)
    ∨ (∃ p q : Nat, parseAt t b = .error (p, q) ∧ q ≠ 0 ∧ e = .returned (.tuple #[.slice none 0 0, .agg #[.int .i64 p, .int .i64 q]])))
set_option maxRecDepth 100000 in
set_option maxHeartbeats 16000000 in
theorem pparse_any (w : World) (t : List UInt8) (b : Nat) (ht : t.length ≤ 16777216) (hb : b ≤ 1099511627776) : Calls Try.prog 20 #[.string (bstr t), .int .i64 b] w (PpEnd w t b) := by
  unfold PpEnd
  have hp := Lib.hid (parse_any (w.alloc (.cells #[.int .i64 0, .int .i64 0] 55)) t (by omega))
  have hB := Lib.hid (blk_new w (.cells #[.int .i64 0, .int .i64 0] 55))
  have hC := Lib.hid ((Chg.refl [] w).alloc (.cells #[.int .i64 0, .int .i64 0] 55))
  have hsz : w.heap.size + 1 = (w.alloc (.cells #[.int .i64 0, .int .i64 0] 55)).heap.size := (Array.size_push ..).symm
  obtain ⟨Z, hZ⟩ : ∃ Z, bstr t = Z := ⟨_, rfl⟩
  rw [hZ] at hp ⊢
  clear hZ
  replace hsz := Lib.hid hsz
  go_enter Try.func20, Try.ntmps20
  go_wp2_with fail
  generalize w.alloc _ = w1 at hp hB hC hsz ⊢
  refine (hp.out).mono ?_
  rintro e w2 ⟨hC2, hcase⟩
  clear hp
  rcases hcase with ⟨A, n, c, xs, cs, rfl, hpe, hn, hO, hX, hq, hnl⟩ | ⟨p, q, rfl, hpe, hq0⟩
  rotate_left
  · have hpl := parse_err hpe
    simp only at hpl
    have hB2 := hC2.heap hB.out (by simp)
    have hC3 := hC.out.trans hC2
    have hne : ((q : Int) != 0) = true := by simp; omega
    have hwr : IntKind.i64.wrap ((b : Int) + (p : Int)) = ((b + p : Nat) : Int) := by rw [IntWalk.i64_in _ (by omega)]; omega
    have hE : parseAt t b = .error (b + p, q) := by unfold parseAt; rw [hpe]; simp only; rw [if_neg hq0]
    replace hE := Lib.hid hE
    replace hC3 := Lib.hid hC3
    replace hq0 := Lib.hid hq0
    have hc0 : w2.cell? ⟨w.heap.size, 0, none⟩ = some (.int .i64 0) := by simp [World.cell?, hB2]
    have hc1 : w2.cell? ⟨w.heap.size, 1, none⟩ = some (.int .i64 0) := by simp [World.cell?, hB2]
    have hf0 : w2.frozen? ⟨w.heap.size, 0, none⟩ = false := by simp [World.frozen?, hB2]
    have hf1 : w2.frozen? ⟨w.heap.size, 1, none⟩ = false := by simp [World.frozen?, hB2]
    clear hpe hC2 hC hB hpl
    replace hB2 := Lib.hid hB2
    go_wp2_with fail
    have hF := (show WS _ w.heap.size ((b + p : Nat) : Int) q from blk_set (blk_set hB2.out 0 (.int .i64 ((b + p : Nat) : Int))) 1 (.int .i64 q))
    refine bodyPost_ret (v := .tuple #[.slice none 0 0, .agg #[.int .i64 ((b + p : Nat) : Int), .int .i64 q]]) ?_ rfl ⟨(hC3.out.setCell (.inr (Nat.le_refl _)) _).setCell (.inr (Nat.le_refl _)) _, .inr ⟨b + p, q, hE.out, hq0.out, rfl⟩⟩
    exact results_tmp_cell rfl _ _ _ 55 _ (0, 0) _ rfl _ rfl hF Try.underlying55 rfl (by kernel_rfl)
  · have hrow := parse_row hpe
    have hE : parseAt t b = .ok (cs.map (shiftC b)) := by unfold parseAt; rw [hpe]
    replace hE := Lib.hid hE
    have hO1 := OutI.start b hO hX (Nat.le_refl _) hC2
    replace hrow := Lib.hid hrow
    replace hO1 := Lib.hid hO1
    replace hn := Lib.hid hn
    have hnn : n ≤ 16777216 := by omega
    clear hpe hO hX hq hnl hC2
    go_wp2_with fail
    go_loopg [26] n (fun gk v26 wr => ∃ (i : Nat), v26 = .int .i64 i ∧ i ≤ n ∧ gk = n - i ∧ Hid (OutI w1 wr b w1.heap.size A n c cs i))
    case atStart => exact ⟨0, rfl, by omega, rfl, hO1⟩
    case round =>
      obtain ⟨i, rfl, hi, rfl, hI⟩ := hrel
      clear hO1
      by_cases hlt : i < n
      · have hil : i < cs.length := by have := hn.out; omega
        obtain ⟨cm, hcm⟩ : ∃ cm, cs[i]? = some cm := ⟨_, List.getElem?_eq_getElem hil⟩
        have hcmr := hrow.out.1 cm (List.mem_of_getElem? hcm)
        obtain ⟨gl, Aw, cw, rfl, q0, q1, f0, hM⟩ := hI.out.open_ hcm
        have hat : cm.at_ ≤ 16777216 := by have := hcmr.1; omega
        have hws : ∀ wd ∈ cm.words, wd.at_ ≤ 16777216 := fun wd hwd => by have := (hcmr.2.2 wd hwd).1; omega
        have hwr : IntKind.i64.wrap ((cm.at_ : Int) + (b : Int)) = (cm.at_ : Int) + (b : Int) := IntWalk.i64_in _ (by omega)
        obtain ⟨nw, hnw⟩ : ∃ nw, cm.words.length = nw := ⟨_, rfl⟩
        have hnwb : nw ≤ 16777216 := by have h1 := sum_mem (fun c : Cmd => c.words.length) (List.mem_of_getElem? hcm); have h2 := hrow.out.2.2.1; omega
        rw [hnw] at q1
        simp only [Int.natCast_add] at hM
        replace hM := Lib.hid hM
        replace hcm := Lib.hid hcm
        replace hws := Lib.hid hws
        replace hnw := Lib.hid hnw
        clear hI hcmr
        go_wp2_with fail
        generalize wr.setCell _ _ = w3 at hM ⊢
        obtain ⟨gl', e1, q1, -⟩ : ∃ gl', (some ⟨gl, 0, none⟩ : Option Addr) = some ⟨gl', 0, none⟩ ∧ w3.cell? ⟨gl', i * 2 + 1, none⟩ = some (.slice Aw nw cw) ∧ True := by
          obtain ⟨gl', e1, q1⟩ := hM.out.cell hcm.out
          exact ⟨gl', e1, by rw [← hnw.out]; exact q1, trivial⟩
        cases e1
        go_wp2_with fail
        go_loopg [44] nw (fun gk2 v44 wr => ∃ (k : Nat), v44 = .int .i64 k ∧ k ≤ nw ∧ gk2 = nw - k ∧ Hid (Mid w1 wr b w1.heap.size (some ⟨gl, 0, none⟩) n c cs i cm Aw cw k))
        case atStart => exact ⟨0, rfl, by omega, rfl, hM⟩
        case round =>
          obtain ⟨k, rfl, hk, rfl, hN⟩ := hrel
          clear hM q1
          replace hN := Lib.hid hN.out
          obtain ⟨gl', e1, q1, -⟩ : ∃ gl', (some ⟨gl, 0, none⟩ : Option Addr) = some ⟨gl', 0, none⟩ ∧ wr.cell? ⟨gl', i * 2 + 1, none⟩ = some (.slice Aw nw cw) ∧ True := by
            obtain ⟨gl', e1, q1⟩ := hN.out.cell hcm.out
            exact ⟨gl', e1, by rw [← hnw.out]; exact q1, trivial⟩
          cases e1
          by_cases hkl : k < nw
          · obtain ⟨wd, hwd⟩ : ∃ wd, cm.words[k]? = some wd := ⟨_, List.getElem?_eq_getElem (by have := hnw.out; omega)⟩
            have hwa := hws.out wd (List.mem_of_getElem? hwd)
            obtain ⟨g, rfl, q2, f2, hN2⟩ := hN.out.word hwd
            simp only [Int.natCast_add] at hN2
            replace hN2 := Lib.hid hN2
            have hwr2 : IntKind.i64.wrap ((wd.at_ : Int) + (b : Int)) = (wd.at_ : Int) + (b : Int) := IntWalk.i64_in _ (by omega)
            clear hN hwd
            go_wp2_with fail
            go_roundg (nw - (k + 1))
            case measure => omega
            case rel => exact ⟨k + 1, rfl, by omega, rfl, hN2⟩
          · obtain rfl : k = nw := by omega
            have hN3 := hN.out
            rw [← hnw.out] at hN3
            have hI := Lib.hid (hN3.close hcm.out)
            clear hN hN3
            go_wp2_with fail
            go_roundg (n - (i + 1))
            case measure => omega
            case rel => exact ⟨i + 1, rfl, by omega, rfl, hI⟩
      · obtain rfl : i = n := by omega
        have hI2 := hI.out
        rw [hn.out] at hI2
        obtain ⟨ys, hS, hBk, hcs, hCw⟩ := hI2.done rfl
        have hB2 := Lib.hid (hCw.heap hB.out (by simp))
        have hc0 : wr.cell? ⟨w.heap.size, 0, none⟩ = some (.int .i64 0) := by simp [World.cell?, hB2.out]
        have hc1 : wr.cell? ⟨w.heap.size, 1, none⟩ = some (.int .i64 0) := by simp [World.cell?, hB2.out]
        have hf0 : wr.frozen? ⟨w.heap.size, 0, none⟩ = false := by simp [World.frozen?, hB2.out]
        have hf1 : wr.frozen? ⟨w.heap.size, 1, none⟩ = false := by simp [World.frozen?, hB2.out]
        replace hC := Lib.hid (hC.out.trans hCw)
        replace hS := Lib.hid hS
        replace hBk := Lib.hid hBk
        replace hcs := Lib.hid hcs
        clear hI hI2 hCw hB
        go_wp2_with fail
        have hF := (show WS _ w.heap.size 0 0 from blk_set (blk_set hB2.out 0 (.int .i64 0)) 1 (.int .i64 0))
        have h3 := (((Chg.refl [w.heap.size] wr).setCell (p := ⟨w.heap.size, 0, none⟩) (.inl (by simp)) (.int .i64 0)).setCell (p := ⟨w.heap.size, 1, none⟩) (.inl (by simp)) (.int .i64 0))
        have hlo : w.heap.size < w1.heap.size := by have := hsz.out; omega
        have hne : ∀ q, w1.heap.size ≤ q → q ∉ [w.heap.size] := fun q hq hm => by simp at hm; omega
        have e0 : (cs.map (shiftC b)).length = i := by rw [List.length_map]; exact hn.out.symm
        have hS' := hS.out
        have hBk' := hBk.out
        have hlen := hn.out
        rw [← hlen] at hS' hBk'
        refine bodyPost_ret (v := .tuple #[.slice A i c, .agg #[.int .i64 0, .int .i64 0]]) ?_ rfl ⟨(hC.out.setCell (.inr (Nat.le_refl _)) _).setCell (.inr (Nat.le_refl _)) _, .inl ⟨cs.map (shiftC b), A, c, ys, hE.out, by rw [e0], by rw [e0]; exact hS'.chg h3 (fun h0 q hq => hne q (hBk' q (by have := hS'.len; omega) hq).1), by rw [e0]; exact (hBk'.chg h3).imp (fun q (hq : w1.heap.size ≤ q) _ => show w.heap.size ≤ q by omega), cmdsC.imp (fun q hq _ => by have := hq.1; omega) (cmdsC.chg h3 (fun q hq _ => hne q hq.1) hcs.out)⟩⟩
        exact results_tmp_cell rfl _ _ _ 55 _ (0, 0) _ rfl _ rfl hF Try.underlying55 rfl (by kernel_rfl)
end Pl
end Go.Proofs.Ytakcolililbkjaa
