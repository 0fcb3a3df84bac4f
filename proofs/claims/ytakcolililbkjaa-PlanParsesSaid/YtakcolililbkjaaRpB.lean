/- RpArms, RpCmd: texts of mine, joined. Conditions: as they state. -/
import Derived.Test.YtakcolililbkjaaRpA
import Derived.Test.YtakcolililbkjaaPlList
import Derived.Test.YtakcolililbkjaaPlTurn
import Derived.Deep.Cut
import Derived.Deep.CutBlock
import Derived.Deep.DeepCutAuto
import Derived.Test.YtakcolililbkjaaPlCm
import Derived.Test.YtakcolililbkjaaRefB
set_option linter.unusedVariables false
set_option linter.unusedSimpArgs false
namespace Go.Proofs.Ytakcolililbkjaa
namespace Rp
open Go.RowKit Tcl Plan Pl
theorem Try.info_rarm : (Try.prog.info? 64).map (fun i => (i.zero, i.size, i.bytes)) = some (some (.agg #[.int .i64 0, .int .i64 0, .int .i64 0, .slice none 0 0, .slice none 0 0]), 5, 72) := by kernel_rfl
/-- An operation of the reference's as a variable. -/
def ROS (w : World) (g : Nat) (k a : Int) (s b : Value) : Prop := w.heap[g]? = some (.cells #[.int .i64 k, .int .i64 a, s, b] 61 (0, 0))
/-- An arm. -/
def RAS (w : World) (g : Nat) (k a d : Int) (s b : Value) : Prop := w.heap[g]? = some (.cells #[.int .i64 k, .int .i64 a, .int .i64 d, s, b] 64 (0, 0))
theorem ROS.chg {S : List Nat} {w w' : World} {g : Nat} {k a : Int} {s b : Value} (h : ROS w g k a s b) (hc : Chg S w w') (hg : g ∉ S) : ROS w' g k a s b := hc.heap h hg
theorem RAS.chg {S : List Nat} {w w' : World} {g : Nat} {k a d : Int} {s b : Value} (h : RAS w g k a d s b) (hc : Chg S w w') (hg : g ∉ S) : RAS w' g k a d s b := hc.heap h hg
theorem ROS.c0 {w : World} {g : Nat} {k a : Int} {s b : Value} (h : ROS w g k a s b) : w.cell? ⟨g, 0, none⟩ = some (.int .i64 k) ∧ w.cell? ⟨g, 1, none⟩ = some (.int .i64 a) ∧ w.cell? ⟨g, 2, none⟩ = some s ∧ w.cell? ⟨g, 3, none⟩ = some b := by
  unfold ROS at h; simp [World.cell?, h]
theorem RAS.c0 {w : World} {g : Nat} {k a d : Int} {s b : Value} (h : RAS w g k a d s b) : w.cell? ⟨g, 0, none⟩ = some (.int .i64 k) ∧ w.cell? ⟨g, 1, none⟩ = some (.int .i64 a) ∧ w.cell? ⟨g, 2, none⟩ = some (.int .i64 d) ∧ w.cell? ⟨g, 3, none⟩ = some s ∧ w.cell? ⟨g, 4, none⟩ = some b := by
  unfold RAS at h; simp [World.cell?, h]
theorem ROS.f0 {w : World} {g : Nat} {k a : Int} {s b : Value} (h : ROS w g k a s b) (j : Nat) : w.frozen? ⟨g, j, none⟩ = false := by unfold ROS at h; simp [World.frozen?, h]
theorem RAS.f0 {w : World} {g : Nat} {k a d : Int} {s b : Value} (h : RAS w g k a d s b) (j : Nat) : w.frozen? ⟨g, j, none⟩ = false := by unfold RAS at h; simp [World.frozen?, h]
theorem RAS.put3 {w : World} {g : Nat} {k a d : Int} {s b : Value} (h : RAS w g k a d s b) (a' d' : Int) (s' : Value) : RAS (((w.setCell ⟨g, 1, none⟩ (.int .i64 a')).setCell ⟨g, 2, none⟩ (.int .i64 d')).setCell ⟨g, 3, none⟩ s') g k a' d' s' b :=
  blk_set (blk_set (blk_set h 1 (.int .i64 a')) 2 (.int .i64 d')) 3 s'
theorem RAS.put1 {w : World} {g : Nat} {k a d : Int} {s b : Value} (h : RAS w g k a d s b) (b' : Value) : RAS (w.setCell ⟨g, 4, none⟩ b') g k a d s b' := blk_set h 4 b'
theorem RAS.put0 {w : World} {g : Nat} {k a d : Int} {s b : Value} (h : RAS w g k a d s b) (k' : Int) : RAS (w.setCell ⟨g, 0, none⟩ (.int .i64 k')) g k' a d s b := blk_set h 0 (.int .i64 k')
theorem ROS.put3 {w : World} {g : Nat} {k a : Int} {s b : Value} (h : ROS w g k a s b) (b' : Value) : ROS (w.setCell ⟨g, 3, none⟩ b') g k a s b' := blk_set h 3 b'
def flI : Option Nat → Int
  | none => -1
  | some k => k
theorem flagI_eq (wd : Word) : flagI wd = flI (flagged wd) := by unfold flagI; cases flagged wd <;> rfl
/-- What the reference's `script` tells. -/
def RScEnd (w : World) (r : Except Bad (List Plan.Op)) (e : Ending) (w' : World) : Prop :=
  Chg [] w w' ∧ ((∃ l A c, r = .ok l ∧ e = .returned (.tuple #[.slice A (List.length l) c, .int .i64 0, .int .i64 0]) ∧ OpsV w' (fun q => w.heap.size ≤ q) (.slice A (List.length l) c) l)
    ∨ (∃ p q : Nat, r = .error (p, q) ∧ q ≠ 0 ∧ e = .returned (.tuple #[.slice none 0 0, .int .i64 p, .int .i64 q])))
def RScO (wx : World) (base : Nat) (r : Except Bad (List Plan.Op)) (V : Value) (p q : Nat) : Prop :=
  (∃ l A c, r = .ok l ∧ V = .slice A (List.length l) c ∧ p = 0 ∧ q = 0 ∧ OpsV wx (fun x => base ≤ x) (.slice A (List.length l) c) l) ∨ (r = .error (p, q) ∧ q ≠ 0 ∧ V = .slice none 0 0)
theorem RScEnd.some {w : World} {r : Except Bad (List Plan.Op)} {e : Ending} {w' : World} (h : RScEnd w r e w') : Chg [] w w' ∧ ∃ V p q, e = .returned (.tuple #[V, .int .i64 ((p : Nat) : Int), .int .i64 ((q : Nat) : Int)]) ∧ ∀ base, base ≤ w.heap.size → RScO w' base r V p q := by
  obtain ⟨hC, ⟨l, A, c, h1, rfl, h2⟩ | ⟨p, q, h1, h2, rfl⟩⟩ := h
  · exact ⟨hC, _, 0, 0, rfl, fun base hb => .inl ⟨l, A, c, h1, rfl, rfl, rfl, h2.imp (fun q hq _ => by omega)⟩⟩
  · exact ⟨hC, _, p, q, rfl, fun base hb => .inr ⟨h1, h2, rfl⟩⟩
/-- The reference's `script` tells what `rec` says, of texts shorter than `L` that end at `M` at most. -/
def RRecOk (rec : List UInt8 → Nat → Except Bad (List Plan.Op)) (L M : Nat) : Prop :=
  ∀ (W : World) (u : List UInt8) (b : Nat), u.length < L → b + u.length ≤ M → Calls Try.prog 17 #[.string (bstr u), .int .i64 b, .bool true] W (RScEnd W (rec u b))
/-- Braced words have one part at most. -/
def OneW (ws : List Word) : Prop := ∀ wd ∈ ws, wd.kind = 2 → wd.parts.length ≤ 1
/-- What the reference's `arms` tells. -/
def RaEnd (w : World) (g : Nat) (k0 : Int) (a0 : Nat) (s0 : Value) (B : Nat → Prop) (r : Except Bad (List Arm)) (e : Ending) (w' : World) : Prop :=
  Chg [g] w w' ∧ ((∃ l A c zs, r = .ok l ∧ l ≠ [] ∧ e = .returned (.tuple #[.int .i64 0, .int .i64 0]) ∧ ROS w' g k0 a0 s0 (.slice A (List.length l) c) ∧ Sl w' 5 (.slice A (List.length l) c) l.length zs ∧ Blk w' (Off B g (.slice none 0 0)) (.slice A (List.length l) c) l.length ∧ armsC w' (Off B g (.slice none 0 0)) zs l)
    ∨ (∃ (p q : Nat) (V : Value), (r = .error (p, q) ∨ (r = .ok [] ∧ p = a0 ∧ q = 2)) ∧ q ≠ 0 ∧ e = .returned (.tuple #[.int .i64 p, .int .i64 q]) ∧ ROS w' g k0 a0 s0 V ∧ V.oneCell' = true))
/-- How far `arms` is. -/
def RLs (w wr : World) (B : Nat → Prop) (g : Nat) (k0 : Int) (a0 : Nat) (s0 : Value) (A : Option Addr) (n c : Nat) (ws : List Word) (Aa : Option Addr) (ca : Nat) (acc : List Arm) (zs : List Value) : Prop :=
  WsV wr (Off B g (.slice Aa (List.length acc) ca)) A n c ws ∧ wr.ownsRow w.heap.size 64 5 (.slice Aa (List.length acc) ca) (List.length acc) zs ∧ armsC wr (Off B g (.slice Aa (List.length acc) ca)) zs acc ∧ Chg [g] w wr ∧ ROS wr g k0 a0 s0 (.slice Aa (List.length acc) ca)
theorem ws_cell2 {w : World} {B : Nat → Prop} {A : Option Addr} {n c : Nat} {ws : List Word} (h : WsV w B A n c ws) {k : Nat} {wd : Word} (hk : ws[k]? = some wd) :
    ∃ b o Ap cp, A = some ⟨b, o, none⟩ ∧ w.cell? ⟨b, o + k * 3, none⟩ = some (.int .i64 wd.at_) ∧ w.cell? ⟨b, o + k * 3 + 1, none⟩ = some (.int .i64 wd.kind) ∧ w.cell? ⟨b, o + k * 3 + 2, none⟩ = some (.slice Ap wd.parts.length cp) ∧ PartsAt w (.slice Ap wd.parts.length cp) wd.parts ∧ Blk w B (.slice Ap wd.parts.length cp) wd.parts.length := by
  obtain ⟨h0, ys, h1, h2, h3⟩ := h
  have hkl := (List.getElem?_eq_some_iff.1 hk).1
  have hl := wordsC.len h3
  obtain ⟨b, o, rfl, hr⟩ := sl_row h1 (by omega)
  obtain ⟨Ap, cp, e1, e2, e3, h4, h5⟩ := wordsC.get h3 hk
  exact ⟨b, o, Ap, cp, rfl, hr _ _ e1, by rw [Nat.add_assoc]; exact hr _ _ e2, by rw [Nat.add_assoc]; exact hr _ _ e3, h4, h5⟩
set_option maxRecDepth 100000 in
set_option maxHeartbeats 16000000 in
theorem rarms_any (rec : List UInt8 → Nat → Except Bad (List Plan.Op)) (L M : Nat) (hrec : RRecOk rec L M) (hL : L ≤ 16777217) (hM : M ≤ 1099511627776) (w : World) (B : Nat → Prop) (g : Nat) (k0 : Int) (a0 : Nat) (s0 : Value) (A : Option Addr) (n c : Nat) (ws : List Word)
    (hW : WsV w B A n c ws) (hwd : Wd L M ws) (hp1 : OneW ws) (hg : ROS w g k0 a0 s0 (.slice none 0 0)) (hBg : ∀ q, B q → q < w.heap.size → q ≠ g) (hB : ∀ q, w.heap.size ≤ q → B q) :
    Calls Try.prog 38 #[.pointer (some ⟨g, 0, none⟩), .slice A n c] w (RaEnd w g k0 a0 s0 B (armsGo rec n ws [])) := by
  unfold RaEnd
  have hn9 := hW.max
  have hn := hW.1
  have hgl := lt_heap hg
  obtain ⟨R, hR⟩ : ∃ R, armsGo rec n ws [] = R := ⟨_, rfl⟩
  rw [hR]
  have hI := Lib.hid (show RLs w w B g k0 a0 s0 A n c ws none 0 [] [] from
    ⟨hW.imp (fun q hq hl => ⟨hq, hBg q hq hl, by simp [Value.ownBlock]⟩), World.ownsRow_nil _ _ _ _, by rw [armsC], Chg.refl _ _, hg⟩)
  replace hrec := Lib.hid hrec
  replace hwd := Lib.hid hwd
  replace hp1 := Lib.hid hp1
  replace hB := Lib.hid hB
  replace hR := Lib.hid hR
  replace hn := Lib.hid hn
  replace hgl := Lib.hid hgl
  clear hW hg hBg
  go_enter Try.func38, Try.ntmps38
  go_wp2_with fail
  go_loopg [6] n (fun gk v6 wr => ∃ (i k : Nat) (Aa : Option Addr) (ca : Nat) (acc : List Arm) (zs : List Value), v6 = .int .i64 i ∧ i ≤ n ∧ gk = n - i ∧ n - i ≤ k ∧ List.length acc ≤ 64 ∧ Hid (RLs w wr B g k0 a0 s0 A n c ws Aa ca acc zs) ∧ Hid (armsGo rec k (ws.drop i) acc = R))
  case atStart => exact ⟨0, n, none, 0, [], [], rfl, by omega, rfl, by omega, by simp, hI, hR⟩
  case round =>
    clear hR hI
    obtain ⟨i, k, Aa, ca, acc, zs, rfl, hi, rfl, hkk, hacc, hI, hR⟩ := hrel
    obtain ⟨wI, oI, aI, cI, sI⟩ := hI.out
    have hn3 : (Value.slice Aa (List.length acc) ca).ownBlock ≠ some g := fun e => by have := (oI.lt _ e).1; have := hgl.out; omega
    obtain ⟨q0, q1, q2, q3⟩ := sI.c0
    replace wI := Lib.hid wI
    replace oI := Lib.hid oI
    replace aI := Lib.hid aI
    replace cI := Lib.hid cI
    replace sI := Lib.hid sI
    clear hI
    by_cases hlt : i < n
    · obtain ⟨f, hf⟩ : ∃ f, ws[i]? = some f := ⟨_, List.getElem?_eq_getElem (by have := hn.out; omega)⟩
      have hdf := drop_get hf
      obtain ⟨b, o, Ap, cp, rfl, u0, u1, u2, hp, hbk⟩ := ws_cell2 wI.out hf
      obtain ⟨np, hnp⟩ : ∃ np, f.parts.length = np := ⟨_, rfl⟩
      have hR2 := hR.out
      rw [hdf] at hR2
      rw [hnp] at u2
      by_cases h64 : List.length acc = 64
      · have hE : R = .error (f.at_, 10) := by
          cases k with
          | zero => omega
          | succ k => rw [armsGo, if_pos h64] at hR2; exact hR2.symm
        replace hE := Lib.hid hE
        have h64' : decide ((List.length acc : Int) ≥ 64) = true := by rw [h64]; rfl
        have hC5 := (Chg.refl [] wr).alloc (.cells #[.int .i64 f.at_, .int .i64 f.kind, .slice Ap np cp] 38)
        have q3' := hC5.cell q3 (by simp)
        have hF := Lib.hid (ROS.chg sI.out hC5 (by simp))
        have cN := Lib.hid (cI.out.trans (hC5.mono (by simp)))
        clear hR hR2 hkk h64 hC5
        go_wp2_with fail
        (try rw [Exit.noGoto_ret])
        go_ret2
        exact ⟨cN.out, .inr ⟨f.at_, 10, _, .inl hE.out, by decide, rfl, hF.out, rfl⟩⟩
      · have h64' : decide ((List.length acc : Int) ≥ 64) = false := decide_eq_false (by omega)
        have hacc2 : List.length acc + 1 ≤ 64 := by omega
        obtain ⟨k', hk', hstep⟩ : ∃ k', n - (i + 1) ≤ k' ∧ (match headA f (ws.drop (i + 1)) with | .error b => .error b | .ok (kd, p, l2) => match bodyA rec l2 with | .error b => .error b | .ok (body, l3) => armsGo rec k' l3 (acc ++ [.mk kd p body])) = R := by
          cases k with
          | zero => omega
          | succ k => rw [armsGo, if_neg h64] at hR2; exact ⟨k, by omega, hR2⟩
        replace hstep := Lib.hid hstep
        have hwf := hwd.out f (List.mem_of_getElem? hf)
        obtain ⟨Bf, hBf⟩ : ∃ Bf, Off B g (.slice Aa (List.length acc) ca) = Bf := ⟨_, rfl⟩
        rw [hBf] at hbk
        obtain ⟨Bo, hBo⟩ : ∃ Bo, (fun q => Bf q ∧ q < wr.heap.size) = Bo := ⟨_, rfl⟩
        have hWs := Lib.hid ((show WsV wr Bf (some ⟨b, o, none⟩) n c ws by rw [← hBf]; exact wI.out).imp (B' := Bo) (fun q hq hl => by rw [← hBo]; exact ⟨hq, hl⟩))
        replace hbk := hbk.imp (B' := Bo) (fun q hq hl => by rw [← hBo]; exact ⟨hq, hl⟩)
        have hC5 := (Chg.refl [] wr).alloc (.cells #[.int .i64 f.at_, .int .i64 f.kind, .slice Ap np cp] 38)
        have hV5 := Lib.hid (show VS (wr.alloc (.cells #[.int .i64 f.at_, .int .i64 f.kind, .slice Ap np cp] 38)) wr.heap.size f.at_ f.kind (.slice Ap np cp) from blk_new _ _)
        have q3' := hC5.cell q3 (by simp)
        have hfl := flag_any (wr.alloc (.cells #[.int .i64 f.at_, .int .i64 f.kind, .slice Ap np cp] 38)) f Ap cp (hp.chg hC5 (fun _ _ _ => by simp))
        unfold wordV at hfl
        rw [hnp] at hfl
        obtain ⟨fo, hfo⟩ : ∃ fo, flagged f = fo := ⟨_, rfl⟩
        obtain ⟨F, hF⟩ : ∃ F, flagI f = F := ⟨_, rfl⟩
        rw [hF] at hfl
        have hF2 : F = flI fo := by rw [← hF, ← hfo, flagI_eq]
        have hsz5 : (wr.alloc (.cells #[.int .i64 f.at_, .int .i64 f.kind, .slice Ap np cp] 38)).heap.size = wr.heap.size + 1 := Array.size_push ..
        replace hfl := Lib.hid hfl
        replace hfo := Lib.hid hfo
        replace hF2 := Lib.hid hF2
        replace hBf := Lib.hid hBf
        replace hBo := Lib.hid hBo
        replace hp := Lib.hid hp
        replace hbk := Lib.hid hbk
        replace hnp := Lib.hid hnp
        replace hC5 := Lib.hid hC5
        replace hwf := Lib.hid hwf
        clear wI hR hR2 hkk h64 hF hdf q0 q1 q2
        have hb5 : Hid ((i : Int) < n) := Lib.hid (by omega)
        go_wp2_with fail
        refine (hfl.out).mono ?_
        rintro e w8 ⟨rfl, hC8⟩
        clear hfl q3' q3 u0 u1 u2
        have hgA : wr.heap.size < w8.heap.size := by have := hC8.size; omega
        obtain ⟨gA, hgA2⟩ : ∃ gA, w8.heap.size = gA := ⟨_, rfl⟩
        rw [hgA2] at hgA
        have hA9 := Lib.hid (show RAS (w8.alloc (.cells #[.int .i64 F, .int .i64 0, .int .i64 0, .slice none 0 0, .slice none 0 0] 64)) gA F 0 0 (.slice none 0 0) (.slice none 0 0) from by rw [← hgA2]; exact blk_new _ _)
        have hC9 := Lib.hid ((hC5.out.trans hC8).alloc (.cells #[.int .i64 F, .int .i64 0, .int .i64 0, .slice none 0 0, .slice none 0 0] 64))
        have hV9 := Lib.hid ((hV5.out.chg hC8 (by simp)).chg ((Chg.refl [] w8).alloc (.cells #[.int .i64 F, .int .i64 0, .int .i64 0, .slice none 0 0, .slice none 0 0] 64)) (by simp))
        clear hC8 hC5 hV5 hsz5
        go_upto_region 8 with fail
        (try rw [hgA2])
        generalize w8.alloc _ = w9 at hA9 hC9 hV9 ⊢
        have hi9 : i + 1 ≤ n := by omega
        obtain ⟨z, hz⟩ : ∃ z, (match fo with | none => false | some j => decide (j < 2)) = z := ⟨_, rfl⟩
        obtain ⟨x0, x1, x2, x3, x4⟩ := hA9.out.c0
        replace hz := Lib.hid hz
        go_cut [40] (fun v40 wx => v40 = .bool z ∧ w9 = wx)
        case first =>
          cases fo with
          | none =>
            obtain rfl : F = -1 := hF2.out
            obtain rfl : false = z := hz.out
            go_wp2_with fail
            go_meet
            exact ⟨rfl, rfl⟩
          | some j =>
            obtain rfl : F = j := hF2.out
            by_cases hj : j < 2
            · obtain rfl : true = z := by rw [← hz.out]; simp [hj]
              by_cases hj0 : j = 0
              · subst hj0
                go_wp2_with fail
                go_meet
                exact ⟨rfl, rfl⟩
              · obtain rfl : j = 1 := by omega
                go_wp2_with fail
                go_meet
                exact ⟨rfl, rfl⟩
            · obtain rfl : false = z := by rw [← hz.out]; simp [hj]
              have e0 : ((j : Int) == 0) = false := by rw [beq_eq_false_iff_ne]; omega
              have e1 : ((j : Int) == 1) = false := by rw [beq_eq_false_iff_ne]; omega
              go_wp2_with fail
              go_meet
              exact ⟨by first | rfl | simp, rfl⟩
        case rest =>
        obtain ⟨rfl, rfl⟩ := hcut
        go_upto_if 40 with fail
        go_cut [6] (fun v6 wx => ∃ (i1 : Nat) (K : Int) (p : Word) (Ap2 : Option Addr) (cp2 : Nat), v6 = .int .i64 i1 ∧ i1 ≤ n ∧ i + 1 ≤ i1 ∧ Hid ((∃ kd : Nat, K = kd ∧ headA f (ws.drop (i + 1)) = .ok (kd, p, ws.drop i1)) ∨ (K = -1 ∧ i1 = i + 1 ∧ p = ⟨0, 0, []⟩ ∧ flagged f = none)) ∧
          Hid (PartsAt wx (.slice Ap2 p.parts.length cp2) p.parts ∧ Blk wx Bo (.slice Ap2 p.parts.length cp2) p.parts.length) ∧ Hid (RAS wx gA K p.at_ p.kind (.slice Ap2 p.parts.length cp2) (.slice none 0 0)) ∧ Hid (VS wx wr.heap.size f.at_ f.kind (.slice Ap np cp)) ∧ Hid (Chg [] wr wx))
        case first =>
          cases z with
          | false =>
            have hrel2 : Hid ((∃ kd : Nat, F = kd ∧ headA f (ws.drop (i + 1)) = .ok (kd, ⟨0, 0, []⟩, ws.drop (i + 1))) ∨ (F = -1 ∧ i + 1 = i + 1 ∧ (⟨0, 0, []⟩ : Word) = ⟨0, 0, []⟩ ∧ flagged f = none)) := Lib.hid (by
              cases fo with
              | none => exact .inr ⟨hF2.out, rfl, rfl, hfo.out⟩
              | some j =>
                have hj : ¬ j < 2 := by have := hz.out; simpa using this
                exact .inl ⟨j, hF2.out, by unfold headA; rw [hfo.out]; simp only; rw [if_neg hj]⟩)
            go_wp2_with fail
            go_meet
            exact ⟨i + 1, F, ⟨0, 0, []⟩, none, 0, by go_num, hi9, by omega, Lib.hid (hrel2.out.imp id (fun h => ⟨h.1, rfl, rfl, h.2.2.2⟩)), Lib.hid ⟨Sl.nil _ _, fun q h0 => absurd h0 (by decide)⟩, hA9, hV9, hC9⟩
          | true =>
            obtain ⟨j, hfj, hj⟩ : ∃ j, fo = some j ∧ j < 2 := by
              cases fo with
              | none => exact absurd hz.out (by simp)
              | some j => exact ⟨j, rfl, by have := hz.out; simpa using this⟩
            have hfo2 := hfo.out.trans hfj
            obtain rfl : F = j := by rw [hF2.out, hfj]; rfl
            by_cases hend : i + 1 = n
            · have hE : R = .error (f.at_, 2) := by
                have h9 := hstep.out
                have hH : headA f (ws.drop (i + 1)) = .error (f.at_, 2) := by
                  rw [List.drop_eq_nil_of_le (by have := hn.out; omega)]
                  unfold headA; rw [hfo2]; simp only; rw [if_pos hj]
                rw [hH] at h9; exact h9.symm
              replace hE := Lib.hid hE
              have hen : ((i : Int) + 1 == (n : Int)) = true := by rw [beq_iff_eq]; omega
              obtain ⟨v0, -, -⟩ := hV9.out.c0
              have hFN := Lib.hid (ROS.chg sI.out hC9.out (by simp))
              have cN := Lib.hid (cI.out.trans (hC9.out.mono (by simp)))
              clear hstep
              go_wp2_with fail
              (try rw [Exit.noGoto_ret])
              go_ret2
              exact ⟨cN.out, .inr ⟨f.at_, 2, _, .inl hE.out, by decide, rfl, hFN.out, rfl⟩⟩
            · have hen : ((i : Int) + 1 == (n : Int)) = false := by rw [beq_eq_false_iff_ne]; omega
              obtain ⟨p, hpk⟩ : ∃ p, ws[i + 1]? = some p := ⟨_, List.getElem?_eq_getElem (by have := hn.out; omega)⟩
              have hH : Hid (headA f (ws.drop (i + 1)) = .ok (j, p, ws.drop (i + 1 + 1))) := Lib.hid (by
                rw [drop_get hpk]; unfold headA; rw [hfo2]; simp only; rw [if_pos hj])
              obtain ⟨b1, o1, Ap1, cp1, e1, p0, p1, p2, hpp, hbk1⟩ := ws_cell2 (hWs.out.chg hC9.out (fun _ _ _ => by simp)) hpk
              cases e1
              have g1 := hA9.out.f0 1
              have g2 := hA9.out.f0 2
              have g3 := hA9.out.f0 3
              have hA11 := Lib.hid (hA9.out.put3 p.at_ p.kind (.slice Ap1 p.parts.length cp1))
              have hS := fun W : World => (((Chg.refl [gA] W).setCell (p := ⟨gA, 1, none⟩) (.inl (by simp)) (.int .i64 p.at_)).setCell (p := ⟨gA, 2, none⟩) (.inl (by simp)) (.int .i64 p.kind)).setCell (p := ⟨gA, 3, none⟩) (.inl (by simp)) (.slice Ap1 p.parts.length cp1)
              have hC11 := Lib.hid (hC9.out.then (hS w9) (by intro x hx; simp at hx; omega))
              have hPB := Lib.hid (show PartsAt _ (.slice Ap1 p.parts.length cp1) p.parts ∧ Blk _ Bo (.slice Ap1 p.parts.length cp1) p.parts.length from ⟨PartsAt.chgB hpp hbk1 (hS w9) (fun q hq _ hm => by rw [← hBo.out] at hq; have := hq.2; simp at hm; omega), hbk1.chg (hS w9)⟩)
              have hV11 := Lib.hid (hV9.out.chg (hS w9) (by simp; omega))
              have hw2 : IntKind.i64.wrap ((i : Int) + 1 + 1) = ((i + 1 + 1 : Nat) : Int) := by rw [IntWalk.i64_in _ (by omega)]; omega
              clear hS hpp hbk1 hA9 hC9 hV9 hpk
              go_wp2_with fail
              go_meet
              exact ⟨i + 1 + 1, j, p, Ap1, cp1, by go_num, by omega, by omega, Lib.hid (.inl ⟨j, rfl, hH.out⟩), hPB, hA11, hV11, hC11⟩
        case rest =>
        obtain ⟨i1, K, p, Ap2, cp2, rfl, hi1, hi2, hrl, hPB, hA2, hV2, hC2⟩ := hcut
        obtain ⟨w2, rfl⟩ : ∃ w2, w2 = wc := ⟨_, rfl⟩
        clear hA9 hC9 hV9 hz hF2 x0 x1 x2 x3 x4
        obtain ⟨x0, x1, x2, x3, x4⟩ := hA2.out.c0
        go_upto_if 56 with fail
        go_cut [6] (fun v6 wx => v6 = .int .i64 (i1 : Int) ∧ ∃ (kd : Nat) (p : Word) (Ap2 : Option Addr) (cp2 : Nat), Hid (headA f (ws.drop (i + 1)) = .ok (kd, p, ws.drop i1)) ∧
          Hid (PartsAt wx (.slice Ap2 p.parts.length cp2) p.parts ∧ Blk wx Bo (.slice Ap2 p.parts.length cp2) p.parts.length) ∧ Hid (RAS wx gA kd p.at_ p.kind (.slice Ap2 p.parts.length cp2) (.slice none 0 0)) ∧ Hid (Chg [] wr wx))
        case first =>
          rcases hrl.out with ⟨kd, rfl, hH⟩ | ⟨rfl, rfl, rfl, hfn⟩
          · have e1 : ((kd : Int) == -1) = false := by rw [beq_eq_false_iff_ne]; omega
            replace hH := Lib.hid hH
            clear hrl
            go_wp2_with fail
            go_meet
            exact ⟨rfl, kd, p, Ap2, cp2, hH, hPB, hA2, hC2⟩
          · have hH : Hid (headA f (ws.drop (i + 1)) = .ok (1, f, ws.drop (i + 1))) := Lib.hid (by unfold headA; rw [hfn])
            have g0 := hA2.out.f0 0
            have g1 := hA2.out.f0 1
            have g2 := hA2.out.f0 2
            have g3 := hA2.out.f0 3
            obtain ⟨v0, v1, v2⟩ := hV2.out.c0
            have hA11 := Lib.hid ((hA2.out.put0 1).put3 f.at_ f.kind (.slice Ap np cp))
            have hS := fun W : World => ((((Chg.refl [gA] W).setCell (p := ⟨gA, 0, none⟩) (.inl (by simp)) (.int .i64 1)).setCell (p := ⟨gA, 1, none⟩) (.inl (by simp)) (.int .i64 f.at_)).setCell (p := ⟨gA, 2, none⟩) (.inl (by simp)) (.int .i64 f.kind)).setCell (p := ⟨gA, 3, none⟩) (.inl (by simp)) (.slice Ap np cp)
            have hC11 := Lib.hid (hC2.out.then (hS w2) (by intro x hx; simp at hx; omega))
            have hPB2 := Lib.hid (show PartsAt _ (.slice Ap f.parts.length cp) f.parts ∧ Blk _ Bo (.slice Ap f.parts.length cp) f.parts.length from ⟨PartsAt.chgB (hp.out.chg hC2.out (fun _ _ _ => by simp)) (hbk.out.chg hC2.out) (hS w2) (fun q hq _ hm => by rw [← hBo.out] at hq; have := hq.2; simp at hm; omega), (hbk.out.chg hC2.out).chg (hS w2)⟩)
            clear hS hrl hfn hPB hC2 hA2
            have hv1 := (show (w2.setCell ⟨gA, 0, none⟩ (.int .i64 1)).cell? ⟨wr.heap.size, 0, none⟩ = some (.int .i64 f.at_) from (((Chg.refl [gA] w2).setCell (p := ⟨gA, 0, none⟩) (.inl (by simp)) (.int .i64 1))).cell v0 (by simp; omega))
            have hv2 := (show (w2.setCell ⟨gA, 0, none⟩ (.int .i64 1)).cell? ⟨wr.heap.size, 1, none⟩ = some (.int .i64 f.kind) from (((Chg.refl [gA] w2).setCell (p := ⟨gA, 0, none⟩) (.inl (by simp)) (.int .i64 1))).cell v1 (by simp; omega))
            have hv3 := (show (w2.setCell ⟨gA, 0, none⟩ (.int .i64 1)).cell? ⟨wr.heap.size, 2, none⟩ = some (.slice Ap np cp) from (((Chg.refl [gA] w2).setCell (p := ⟨gA, 0, none⟩) (.inl (by simp)) (.int .i64 1))).cell v2 (by simp; omega))
            go_wp2_with fail
            go_meet
            exact ⟨by go_num, 1, f, Ap, cp, hH, hPB2, by rw [hnp.out]; exact hA11, hC11⟩
        case rest =>
        clear x0 x1 x2 x3 x4 hrl hPB hA2 hV2 hC2 hp hbk hnp
        obtain ⟨rfl, kd, p, Ap2, cp2, hH, hPB, hA2, hC2⟩ := hcut
        obtain ⟨w3, rfl⟩ : ∃ w3, w3 = wc := ⟨_, rfl⟩
        have hst2 := Lib.hid (show (match bodyA rec (ws.drop i1) with | .error b => .error b | .ok (body, l3) => armsGo rec k' l3 (acc ++ [.mk kd p body])) = R by have := hstep.out; rw [hH.out] at this; exact this)
        have hW3 := Lib.hid (hWs.out.chg hC2.out (fun _ _ _ => by simp))
        obtain ⟨z, hz⟩ : ∃ z, (match ws[i1]? with | none => false | some wd => decide (wd.kind = 2)) = z := ⟨_, rfl⟩
        replace hz := Lib.hid hz
        clear hstep hH hfo
        go_upto_region 16 with fail
        go_cut [71] (fun v71 wx => v71 = .bool z ∧ w3 = wx)
        case first =>
          by_cases hin : i1 < n
          · obtain ⟨wd, hwk⟩ : ∃ wd, ws[i1]? = some wd := ⟨_, List.getElem?_eq_getElem (by have := hn.out; omega)⟩
            obtain ⟨b1, o1, Ap1, cp1, e1, p0, p1, p2, hpp, hbk1⟩ := ws_cell2 hW3.out hwk
            cases e1
            have hzz : ((wd.kind : Int) == 2) = z := by
              have := hz.out
              rw [hwk] at this
              rw [← this]
              by_cases h : wd.kind = 2
              · simp [h]
              · simp only [decide_eq_false h]; rw [beq_eq_false_iff_ne]; omega
            clear hpp hbk1 p0 p2 hwk
            go_wp2_with fail
            go_meet
            exact ⟨rfl, rfl⟩
          · obtain rfl : false = z := by
              have := hz.out
              rw [List.getElem?_eq_none (by have := hn.out; omega)] at this
              exact this
            go_wp2_with fail
            go_meet
            exact ⟨rfl, rfl⟩
        case rest =>
        obtain ⟨rfl, hw3⟩ := hcut
        subst hw3
        go_upto_if 71 with fail
        go_cut [6] (fun v6 wx => ∃ (i2 : Nat) (body : List Plan.Op) (Ab : Option Addr) (cb : Nat), v6 = .int .i64 i2 ∧ i2 ≤ n ∧ i + 1 ≤ i2 ∧ Hid (bodyA rec (ws.drop i1) = .ok (body, ws.drop i2)) ∧
          Hid (RAS wx gA kd p.at_ p.kind (.slice Ap2 p.parts.length cp2) (.slice Ab (List.length body) cb)) ∧ Hid (OpsV wx (fun q => Bf q ∧ q ≠ gA) (.slice Ab (List.length body) cb) body) ∧ Hid (Chg [] wr wx) ∧ Hid (Chg [gA] w3 wx))
        case first =>
          cases z with
          | false =>
            have hBd : Hid (bodyA rec (ws.drop i1) = .ok ([], ws.drop i1)) := Lib.hid (by
              unfold bodyA
              cases hd : ws.drop i1 with
              | nil => rfl
              | cons wd l3 =>
                have hwk : ws[i1]? = some wd := by rw [← List.head?_drop, hd]; rfl
                have h : ¬ wd.kind = 2 := by have := hz.out; rw [hwk] at this; simpa using this
                simp only; rw [if_neg h])
            go_wp2_with fail
            go_meet
            exact ⟨i1, [], none, 0, by go_num, hi1, by omega, hBd, hA2, Lib.hid ⟨[], Sl.nil _ _, fun q h0 => absurd h0 (by decide), by rw [opsC]⟩, hC2, Lib.hid (Chg.refl _ _)⟩
          | true =>
            obtain ⟨wd, hwk, hk2⟩ : ∃ wd, ws[i1]? = some wd ∧ wd.kind = 2 := by
              cases hx : ws[i1]? with
              | none => have := hz.out; rw [hx] at this; exact absurd this (by simp)
              | some wd => exact ⟨wd, rfl, by have := hz.out; rw [hx] at this; simpa using this⟩
            have hin1 : i1 < n := by have := (List.getElem?_eq_some_iff.1 hwk).1; have := hn.out; omega
            have hmem := List.mem_of_getElem? hwk
            obtain ⟨hwa, hwb⟩ := hwd.out wd hmem
            obtain ⟨hwb1, hwb2⟩ := hwb hk2
            have hone := hp1.out wd hmem hk2
            obtain ⟨b1, o1, Ap1, cp1, e1, p0, p1, p2, hpp, hbk1⟩ := ws_cell2 hW3.out hwk
            cases e1
            have hop := Lib.hid (fun W (hc : Chg [] w3 W) => inner_any W wd Ap1 cp1 (hpp.chg hc (fun _ _ _ => by simp)) hone)
            have hsc := Lib.hid (fun W => hrec.out W (openT wd) (wd.at_ + 1) hwb1 hwb2)
            have hBd : (bodyA rec (ws.drop i1) = match rec (openT wd) (wd.at_ + 1) with | .error b => .error b | .ok body => .ok (body, ws.drop (i1 + 1))) := by
              rw [drop_get hwk]; unfold bodyA; simp only; rw [if_pos hk2]; rfl
            obtain ⟨rr, hrr⟩ : ∃ rr, rec (openT wd) (wd.at_ + 1) = rr := ⟨_, rfl⟩
            rw [hrr] at hsc hBd
            obtain ⟨Z, hZ⟩ : ∃ Z, bstr (openT wd) = Z := ⟨_, rfl⟩
            rw [hZ] at hop hsc
            have hwr : IntKind.i64.wrap ((wd.at_ : Int) + 1) = (wd.at_ : Int) + 1 := IntWalk.i64_in _ (by omega)
            simp only [Int.natCast_add, Int.cast_ofNat_Int] at hsc
            unfold wordV at hop
            obtain ⟨np1, hnp1⟩ : ∃ np1, wd.parts.length = np1 := ⟨_, rfl⟩
            rw [hnp1] at hop p2
            have y2 := Lib.hid (fun W (hc : Chg [] w3 W) => (⟨hc.cell p0 (by simp), hc.cell p1 (by simp), hc.cell p2 (by simp)⟩ : W.cell? ⟨b, o + i1 * 3, none⟩ = some (.int .i64 wd.at_) ∧ W.cell? ⟨b, o + i1 * 3 + 1, none⟩ = some (.int .i64 wd.kind) ∧ W.cell? ⟨b, o + i1 * 3 + 2, none⟩ = some (.slice Ap1 np1 cp1)))
            have y7 := Lib.hid (fun W (hc : Chg [] w3 W) => hc.cell p0 (by simp))
            have hlA := Lib.hid (lt_heap hA2.out)
            replace hBd := Lib.hid hBd
            clear hpp hbk1 p0 p1 p2 hrr hZ hnp1 hwa hwb hwb1 hwb2 hk2 hz hone hmem hwk
            go_upto_region 17 with fail
            go_cut [9, 10, 11] (fun v9 v10 v11 wx => ∃ (V : Value) (pp qq : Nat), v9 = V ∧ v10 = .int .i64 pp ∧ v11 = .int .i64 qq ∧ Hid (RScO wx (gA + 1) rr V pp qq) ∧ Hid (Chg [] w3 wx))
            case first =>
              clear hL hM hn9 h64' hacc2 hk' hn3
              refine wp_region_held (S := fun w' => Chg [] w3 w') (by kernel_rfl) ?_
              (try (change wpAnyH _ _ _ _ _ _ _ _ (World.drew _)))
              have hHeld : Chg [] w3 (World.drew w3) := (Chg.refl _ _).drew
              refine wpAnyH_take (i := 0) (v := ?_) rfl (by kernel_rfl) (by kernel_rfl) (by kernel_rfl) (fun _ _ _ h => h) (Or.inl ⟨by kernel_rfl, ?_⟩) (by exact hHeld) ?_
              rotate_left
              · (intro w hSw; clear hSw; go_simp; try with_reducible rfl)
              change wpAnyH _ _ _ _ _ _ _ (Act.put _ (some 73) _) _
              (try simp only [Act.put, List.setIfInBounds_toArray, List.set_cons_zero, List.set_cons_succ])
              refine wpAnyH_take (i := 1) (v := ?_) rfl (by kernel_rfl) (by kernel_rfl) (by kernel_rfl) (fun _ _ _ h => h) (Or.inl ⟨by kernel_rfl, ?_⟩) (by exact hHeld) ?_
              rotate_left
              · (intro w hSw; clear hSw; go_simp; try with_reducible rfl)
              change wpAnyH _ _ _ _ _ _ _ (Act.put _ (some 74) _) _
              (try simp only [Act.put, List.setIfInBounds_toArray, List.set_cons_zero, List.set_cons_succ])
              refine wpAnyH_take (i := 2) (v := ?_) rfl (by kernel_rfl) (by kernel_rfl) (by kernel_rfl) (fun _ _ _ h => h) (Or.inl ⟨by kernel_rfl, ?_⟩) (by exact hHeld) ?_
              rotate_left
              · (intro w hSw; have hq := y7.out w hSw; clear hSw; (try obtain ⟨hq, hq2, hq3⟩ := hq); go_simp; try with_reducible rfl)
              change wpAnyH _ _ _ _ _ _ _ (Act.put _ (some 75) _) _
              (try simp only [Act.put, List.setIfInBounds_toArray, List.set_cons_zero, List.set_cons_succ])
              refine wpAnyH_take (i := 3) (v := ?_) rfl (by kernel_rfl) (by kernel_rfl) (by kernel_rfl) (fun _ _ _ h => h) (Or.inl ⟨by kernel_rfl, ?_⟩) (by exact hHeld) ?_
              rotate_left
              · (intro w hSw; have hq := y2.out w hSw; clear hSw; (try obtain ⟨hq, hq2, hq3⟩ := hq); go_simp; try with_reducible rfl)
              change wpAnyH _ _ _ _ _ _ _ (Act.put _ (some 76) _) _
              (try simp only [Act.put, List.setIfInBounds_toArray, List.set_cons_zero, List.set_cons_succ])
              refine wpAnyH_take (i := 5) (v := ?_) rfl (by kernel_rfl) (by kernel_rfl) (by kernel_rfl) (fun _ _ _ h => h) (Or.inl ⟨by kernel_rfl, ?_⟩) (by exact hHeld) ?_
              rotate_left
              · (intro w hSw; clear hSw; go_simp; try with_reducible rfl)
              change wpAnyH _ _ _ _ _ _ _ (Act.put _ (some 78) _) _
              (try simp only [Act.put, List.setIfInBounds_toArray, List.set_cons_zero, List.set_cons_succ])
              refine wpAnyH_take (i := 6) (v := ?_) rfl (by kernel_rfl) (by kernel_rfl) (by kernel_rfl) (fun _ _ _ h => h) (Or.inl ⟨by kernel_rfl, ?_⟩) (by exact hHeld) ?_
              rotate_left
              · (intro w hSw; clear hSw; go_simp; try with_reducible rfl)
              change wpAnyH _ _ _ _ _ _ _ (Act.put _ (some 79) _) _
              (try simp only [Act.put, List.setIfInBounds_toArray, List.set_cons_zero, List.set_cons_succ])
              refine wpAnyH_take (i := 7) (v := ?_) rfl (by kernel_rfl) (by kernel_rfl) (by kernel_rfl) (fun _ _ _ h => h) (Or.inl ⟨by kernel_rfl, ?_⟩) (by exact hHeld) ?_
              rotate_left
              · (intro w hSw; have hq := y7.out w hSw; clear hSw; (try obtain ⟨hq, hq2, hq3⟩ := hq); go_simp; try with_reducible rfl)
              change wpAnyH _ _ _ _ _ _ _ (Act.put _ (some 80) _) _
              (try simp only [Act.put, List.setIfInBounds_toArray, List.set_cons_zero, List.set_cons_succ])
              refine wpAnyH_take (i := 8) (v := ?_) rfl (by kernel_rfl) (by kernel_rfl) (by kernel_rfl) (fun _ _ _ h => h) (Or.inl ⟨by kernel_rfl, ?_⟩) (by exact hHeld) ?_
              rotate_left
              · (intro w hSw; clear hSw; go_simp; try with_reducible rfl)
              change wpAnyH _ _ _ _ _ _ _ (Act.put _ (some 81) _) _
              (try simp only [Act.put, List.setIfInBounds_toArray, List.set_cons_zero, List.set_cons_succ])
              refine wpAnyH_take (i := 9) (v := ?_) rfl (by kernel_rfl) (by kernel_rfl) (by kernel_rfl) (fun _ _ _ h => h) (Or.inl ⟨by kernel_rfl, ?_⟩) (by exact hHeld) ?_
              rotate_left
              · (intro w hSw; have hq := y7.out w hSw; clear hSw; (try obtain ⟨hq, hq2, hq3⟩ := hq); go_simp; try with_reducible rfl)
              change wpAnyH _ _ _ _ _ _ _ (Act.put _ (some 82) _) _
              (try simp only [Act.put, List.setIfInBounds_toArray, List.set_cons_zero, List.set_cons_succ])
              refine wpAnyH_take (i := 10) (v := ?_) rfl (by kernel_rfl) (by kernel_rfl) (by kernel_rfl) (fun _ _ _ h => h) (Or.inl ⟨by kernel_rfl, ?_⟩) (by exact hHeld) ?_
              rotate_left
              · (intro w hSw; clear hSw; go_simp; try with_reducible rfl)
              change wpAnyH _ _ _ _ _ _ _ (Act.put _ (some 83) _) _
              (try simp only [Act.put, List.setIfInBounds_toArray, List.set_cons_zero, List.set_cons_succ])
              refine wpAnyH_all (rs := [4]) (by kernel_rfl) (by simp) ?_
              refine AllReadyH.cons rfl (fun K hK => ?_) ?_
              · go_simp
                go_wp2_with (first
                    | (go_at_call 37; refine (hop.out _ (by exact hHeld)).mono ?_; rintro e w7 ⟨rfl, hC7⟩; have hHeld := hHeld.trans hC7; have hH7 := Lib.hid hHeld)
                    | (go_at_call 17; refine (hsc.out _).mono ?_; rintro e w9 h9; obtain ⟨hC10, V, pp, qq, rfl, hSc⟩ := h9.some; have hHeld := hHeld.trans hC10))
                refine hK.out _ _ (by first | exact hHeld | exact Chg.trans hHeld (by assumption) | exact Chg.alloc hHeld _ | exact Chg.alloc hH9 _ | exact (Chg.setCell hHeld (.inr hge) _).setCell (.inr hge) _ | exact (Chg.setCell hHeld (.inl (by simp)) _).setCell (.inl (by simp)) _) (fun hHeld => ?_)
                clear hK K
                (try simp only [Act.put, List.setIfInBounds_toArray, List.set_cons_zero, List.set_cons_succ])
                refine wpAnyH_all (rs := [11]) (by kernel_rfl) (by simp) ?_
                refine AllReadyH.cons rfl (fun K hK => ?_) ?_
                · go_simp
                  go_wp2_with (first
                      | (go_at_call 37; refine (hop.out _ (by exact hHeld)).mono ?_; rintro e w7 ⟨rfl, hC7⟩; have hHeld := hHeld.trans hC7; have hH7 := Lib.hid hHeld)
                      | (go_at_call 17; refine (hsc.out _).mono ?_; rintro e w9 h9; obtain ⟨hC10, V, pp, qq, rfl, hSc⟩ := h9.some; have hHeld := hHeld.trans hC10))
                  refine hK.out _ _ (by first | exact hHeld | exact Chg.trans hHeld (by assumption) | exact Chg.alloc hHeld _ | exact Chg.alloc hH9 _ | exact (Chg.setCell hHeld (.inr hge) _).setCell (.inr hge) _ | exact (Chg.setCell hHeld (.inl (by simp)) _).setCell (.inl (by simp)) _) (fun hHeld => ?_)
                  clear hK K
                  (try simp only [Act.put, List.setIfInBounds_toArray, List.set_cons_zero, List.set_cons_succ])
                  refine wpAnyH_take (i := 12) (v := ?_) rfl (by kernel_rfl) (by kernel_rfl) (by kernel_rfl) (fun _ _ _ h => h) (Or.inl ⟨by kernel_rfl, ?_⟩) (by exact hHeld) ?_
                  rotate_left
                  · (intro w hSw; clear hSw; go_simp; try with_reducible rfl)
                  change wpAnyH _ _ _ _ _ _ _ (Act.put _ (some 72) _) _
                  (try simp only [Act.put, List.setIfInBounds_toArray, List.set_cons_zero, List.set_cons_succ])
                  refine wpAnyH_take (i := 13) (v := ?_) rfl (by kernel_rfl) (by kernel_rfl) (by kernel_rfl) (fun _ _ _ h => h) (Or.inl ⟨by kernel_rfl, ?_⟩) (by exact hHeld) ?_
                  rotate_left
                  · (intro w hSw; clear hSw; go_simp; try with_reducible rfl)
                  change wpAnyH _ _ _ _ _ _ _ (Act.put _ (some 85) _) _
                  (try simp only [Act.put, List.setIfInBounds_toArray, List.set_cons_zero, List.set_cons_succ])
                  refine wpAnyH_take (i := 14) (v := ?_) rfl (by kernel_rfl) (by kernel_rfl) (by kernel_rfl) (fun _ _ _ h => h) (Or.inl ⟨by kernel_rfl, ?_⟩) (by exact hHeld) ?_
                  rotate_left
                  · (intro w hSw; clear hSw; go_simp; try with_reducible rfl)
                  change wpAnyH _ _ _ _ _ _ _ (Act.put _ (some 86) _) _
                  (try simp only [Act.put, List.setIfInBounds_toArray, List.set_cons_zero, List.set_cons_succ])
                  refine wpAnyH_take (i := 15) (v := ?_) rfl (by kernel_rfl) (by kernel_rfl) (by kernel_rfl) (fun _ _ _ h => h) (Or.inl ⟨by kernel_rfl, ?_⟩) (by exact hHeld) ?_
                  rotate_left
                  · (intro w hSw; clear hSw; go_simp; try with_reducible rfl)
                  change wpAnyH _ _ _ _ _ _ _ (Act.put _ (some 87) _) _
                  (try simp only [Act.put, List.setIfInBounds_toArray, List.set_cons_zero, List.set_cons_succ])
                  refine wpAnyH_take (i := 16) (v := ?_) rfl (by kernel_rfl) (by kernel_rfl) (by kernel_rfl) (fun _ _ _ h => h) (Or.inl ⟨by kernel_rfl, ?_⟩) (by exact hHeld) ?_
                  rotate_left
                  · (intro w hSw; clear hSw; go_simp; try with_reducible rfl)
                  change wpAnyH _ _ _ _ _ _ _ (Act.put _ (some 9) _) _
                  (try simp only [Act.put, List.setIfInBounds_toArray, List.set_cons_zero, List.set_cons_succ])
                  refine wpAnyH_take (i := 17) (v := ?_) rfl (by kernel_rfl) (by kernel_rfl) (by kernel_rfl) (fun _ _ _ h => h) (Or.inl ⟨by kernel_rfl, ?_⟩) (by exact hHeld) ?_
                  rotate_left
                  · (intro w hSw; clear hSw; go_simp; try with_reducible rfl)
                  change wpAnyH _ _ _ _ _ _ _ (Act.put _ (some 10) _) _
                  (try simp only [Act.put, List.setIfInBounds_toArray, List.set_cons_zero, List.set_cons_succ])
                  refine wpAnyH_take (i := 18) (v := ?_) rfl (by kernel_rfl) (by kernel_rfl) (by kernel_rfl) (fun _ _ _ h => h) (Or.inl ⟨by kernel_rfl, ?_⟩) (by exact hHeld) ?_
                  rotate_left
                  · (intro w hSw; clear hSw; go_simp; try with_reducible rfl)
                  change wpAnyH _ _ _ _ _ _ _ (Act.put _ (some 11) _) _
                  (try simp only [Act.put, List.setIfInBounds_toArray, List.set_cons_zero, List.set_cons_succ])
                  refine wpAnyH_done (by kernel_rfl) ?_ _
                  (try simp only [Act.put, List.setIfInBounds_toArray, List.set_cons_zero, List.set_cons_succ])
                  go_wp2_with fail
                  go_meet
                  exact ⟨V, pp, qq, rfl, rfl, rfl, Lib.hid (hSc _ (by have h1 := hH7.out.size; have h2 := hlA.out; omega)), Lib.hid hHeld⟩
                exact AllReadyH.nil
              exact AllReadyH.nil
            case rest =>
            obtain ⟨V, pp, qq, rfl, rfl, rfl, hSc, hC3⟩ := hcut
            obtain ⟨w4, rfl⟩ : ∃ w4, w4 = wc := ⟨_, rfl⟩
            clear hop hsc y2 y7
            rcases hSc.out with ⟨l, A5, c5, hl, rfl, rfl, rfl, hOp⟩ | ⟨hl, hq0, rfl⟩
            · have hBd2 : Hid (bodyA rec (ws.drop i1) = .ok (l, ws.drop (i1 + 1))) := Lib.hid (by rw [hBd.out, hl])
              have hA3 := Lib.hid (hA2.out.chg hC3.out (by simp))
              have a4 := hA3.out.c0.2.2.2.2
              have g4 := hA3.out.f0 4
              have hA4 := Lib.hid (hA3.out.put1 (.slice A5 (List.length l) c5))
              have hS := (Chg.refl [gA] w4).setCell (p := ⟨gA, 4, none⟩) (.inl (by simp)) (.slice A5 (List.length l) c5)
              have hOp2 := Lib.hid ((OpsV.chg hOp hS (fun q hq _ hm => by simp at hm; omega)).imp (B' := fun q => Bf q ∧ q ≠ gA) (fun q hq _ => by
                have h1 := cI.out.size
                have h3 := hgl.out
                rw [← hBf.out]
                exact ⟨⟨hB.out q (by omega), by omega, fun e => by have := (oI.out.lt q e).2; omega⟩, by omega⟩))
              have hC4 := Lib.hid (((hC2.out.trans hC3.out).setCell (p := ⟨gA, 4, none⟩) (.inr (by show wr.heap.size ≤ gA; omega)) (.slice A5 (List.length l) c5)))
              have hC5 := Lib.hid (((Chg.mono hC3.out (S1 := [gA]) (by simp)).trans hS))
              clear hOp hS hSc hBd hA3 hl
              go_wp2_with fail
              go_meet
              exact ⟨i1 + 1, l, A5, c5, by go_num, by omega, by omega, hBd2, hA4, hOp2, hC4, hC5⟩
            · have hE : R = .error (pp, qq) := by have := hst2.out; rw [hBd.out, hl] at this; exact this.symm
              replace hE := Lib.hid hE
              have hne : ((qq : Int) != 0) = true := by simp; omega
              have hFN := Lib.hid (ROS.chg sI.out (hC2.out.trans hC3.out) (by simp))
              have cN := Lib.hid (cI.out.trans ((hC2.out.trans hC3.out).mono (by simp)))
              replace hq0 := Lib.hid hq0
              clear hst2 hBd hl hSc
              go_wp2_with fail
              (try rw [Exit.noGoto_ret])
              go_ret2
              exact ⟨cN.out, .inr ⟨pp, qq, _, .inl hE.out, hq0.out, rfl, hFN.out, rfl⟩⟩
        case rest =>
        obtain ⟨i2, body, Ab, cb, rfl, hi3, hi4, hBd, hA3, hOp, hC3, hC4⟩ := hcut
        obtain ⟨w4, rfl⟩ : ∃ w4, w4 = wc := ⟨_, rfl⟩
        have hst3 := Lib.hid (show armsGo rec k' (ws.drop i2) (acc ++ [.mk kd p body]) = R by have := hst2.out; rw [hBd.out] at this; exact this)
        have hsz3 := hC3.out.size
        have oI3 := own_chg oI.out hC3.out (by simp)
        have aI3 := armsC.chg hC3.out (fun _ _ _ => by simp) _ _ aI.out
        rw [hBf.out] at aI3
        have hW4 : wordC w4 Bf [.int .i64 p.at_, .int .i64 p.kind, .slice Ap2 p.parts.length cp2] p := by
          obtain ⟨k1, k2⟩ := hPB.out
          refine (wordC.chg (w := w3) (B := Bo) ⟨Ap2, cp2, rfl, k1, k2⟩ hC4.out (fun q hq _ hm => ?_)).imp (fun q hq _ => by rw [← hBo.out] at hq; exact hq.1)
          rw [← hBo.out] at hq
          have := hq.2
          simp at hm; omega
        have hWsN := Lib.hid (hWs.out.chg hC3.out (fun _ _ _ => by simp))
        have hArm : armC w4 Bf [.int .i64 kd, .int .i64 p.at_, .int .i64 p.kind, .slice Ap2 p.parts.length cp2, .slice Ab (List.length body) cb] (.mk kd p body) := by
          obtain ⟨xs, k1, k2, k3⟩ := hOp.out
          rw [armC]
          exact ⟨_, Ab, cb, xs, rfl, hW4, k1, k2.imp (fun q hq _ => hq.1), opsC.imp (fun q hq _ => hq.1) _ _ k3⟩
        have hall := Lib.hid (armsC.snoc hArm aI3)
        have cI3 := Lib.hid (cI.out.trans (hC3.out.mono (S1 := [g]) (by simp)))
        have sI3 := Lib.hid (sI.out.chg hC3.out (by simp))
        obtain ⟨z0, z1, z2, z3, z4⟩ := hA3.out.c0
        obtain ⟨q0, q1, q2, q3⟩ := sI3.out.c0
        obtain ⟨sl2, hsl2⟩ : ∃ v, Value.slice Ap2 p.parts.length cp2 = v := ⟨_, rfl⟩
        obtain ⟨sl3, hsl3⟩ : ∃ v, Value.slice Ab (List.length body) cb = v := ⟨_, rfl⟩
        have ho2 : sl2.oneCell' = true := by rw [← hsl2]; rfl
        have ho3 : sl3.oneCell' = true := by rw [← hsl3]; rfl
        rw [hsl2, hsl3] at hall
        rw [hsl2] at z3
        rw [hsl3] at z4
        have oI3' := Lib.hid oI3
        have hbase := Lib.hid (show w.heap.size ≤ w4.heap.size from cI3.out.size)
        have hD := (Chg.refl [] w4).drew
        replace z0 := hD.cell z0 (by simp)
        replace z1 := hD.cell z1 (by simp)
        replace z2 := hD.cell z2 (by simp)
        replace z3 := hD.cell z3 (by simp)
        replace z4 := hD.cell z4 (by simp)
        replace q3 := hD.cell q3 (by simp)
        have sD := Lib.hid (sI3.out.chg hD (by simp))
        have oD := Lib.hid (own_chg oI3 hD (by simp))
        have hWD := Lib.hid (hWsN.out.chg hD (fun _ _ _ => by simp))
        have aD := Lib.hid (armsC.chg hD (fun _ _ _ => by simp) _ _ hall.out)
        have cD := Lib.hid (cI3.out.trans (hD.mono (by simp)))
        have hwD := Lib.hid (show wr.heap.size ≤ w4.drew.heap.size from hsz3)
        clear hst2 hBd hOp hA3 hArm hW4 aI3 oI3 hsl2 hsl3 hPB hA2 hz hC4 q0 q1 q2 hW3 hC2 hD hall cI3 sI3 oI3' hWsN
        go_wp2_with fail
        refine wp_region_any (by kernel_rfl) ?_
        (try (change wpAny _ _ _ _ _ _ _ (World.drew _)))
        refine wpAny_take (i := 0) (v := ?_) rfl (by kernel_rfl) (by kernel_rfl) (by kernel_rfl) (fun _ _ _ h => h) (Or.inl ⟨by kernel_rfl, ?_⟩) ?_
        rotate_left
        · (intro w; go_simp; try with_reducible rfl)
        change wpAny _ _ _ _ _ _ (Act.put _ (some 96) _) _
        (try simp only [Act.put, List.setIfInBounds_toArray, List.set_cons_zero, List.set_cons_succ])
        (generalize World.drew w4 = w6 at z0 z1 z2 z3 z4 q3 sD oD hWD aD cD hwD ⊢; have q3a : ∀ o : Obj, (w6.alloc o).cell? ⟨g, 3, none⟩ = some (Value.slice Aa (List.length acc) ca) := (fun o => ((Chg.refl [] w6).alloc o).cell q3 (by simp)))
        refine wpAny_take (i := 1) (v := ?_) rfl (by kernel_rfl) (by kernel_rfl) (by kernel_rfl) (fun _ _ _ h => h) (Or.inl ⟨by kernel_rfl, ?_⟩) ?_
        rotate_left
        · (intro w; go_simp; try with_reducible rfl)
        change wpAny _ _ _ _ _ _ (Act.put _ (some 97) _) _
        (try simp only [Act.put, List.setIfInBounds_toArray, List.set_cons_zero, List.set_cons_succ])
        refine wpAny_take (i := 2) (v := ?_) rfl (by kernel_rfl) (by kernel_rfl) (by kernel_rfl) (fun _ _ _ h => h) (Or.inl ⟨by kernel_rfl, ?_⟩) ?_
        rotate_left
        · (intro w; go_simp; try with_reducible rfl)
        change wpAny _ _ _ _ _ _ (Act.put _ (some 98) _) _
        (try simp only [Act.put, List.setIfInBounds_toArray, List.set_cons_zero, List.set_cons_succ])
        refine wpAny_take (i := 3) (v := ?_) rfl (by kernel_rfl) (by kernel_rfl) (by kernel_rfl) (fun _ _ _ h => h) (Or.inl ⟨by kernel_rfl, ?_⟩) ?_
        rotate_left
        · (intro w; go_simp; try with_reducible rfl)
        change wpAny _ _ _ _ _ _ (Act.put _ (some 99) _) _
        (try simp only [Act.put, List.setIfInBounds_toArray, List.set_cons_zero, List.set_cons_succ])
        refine wpAny_ready (rs := [4, 5]) (by kernel_rfl) (by simp) ?_
        refine AllReady.cons rfl (fun K hK => ?_) ?_
        · go_simp
          (try (refine hK _ _ ?_; clear hK K))
          (try simp only [Act.put, List.setIfInBounds_toArray, List.set_cons_zero, List.set_cons_succ])
          refine wpAny_ready (rs := [5]) (by kernel_rfl) (by simp) ?_
          refine AllReady.cons rfl (fun K hK => ?_) ?_
          · go_simp
            (try (refine hK _ _ ?_; clear hK K))
            (try simp only [Act.put, List.setIfInBounds_toArray, List.set_cons_zero, List.set_cons_succ])
            refine wpAny_ready (rs := [6]) (by kernel_rfl) (by simp) ?_
            refine AllReady.cons rfl (fun K hK => ?_) ?_
            · go_simp
              (try (refine hK _ _ ?_; clear hK K))
              (try simp only [Act.put, List.setIfInBounds_toArray, List.set_cons_zero, List.set_cons_succ])
              refine wpAny_ready (rs := [7]) (by kernel_rfl) (by simp) ?_
              refine AllReady.cons rfl (fun K hK => ?_) ?_
              · (refine step_append_sl rfl (.tmp 100) (.tmp 102) 59 rfl w.heap.size 64 (.agg #[.int .i64 0, .int .i64 0, .int .i64 0, .slice none 0 0, .slice none 0 0]) 5 72 Try.underlying59 Try.info_rarm rfl (by decide) _ (List.length acc) zs (oD.out.alloc _) rfl _ 1 [.int .i64 kd, .int .i64 p.at_, .int .i64 p.kind, sl2, sl3] (sl_wide_new w6 _ 64 5 rfl) rfl (by intro u hu; simp at hu; rcases hu with rfl | rfl | rfl | rfl | rfl <;> first | rfl | exact ho2 | exact ho3) (List.length acc + 1) rfl (by omega) (by decide) (by have h1 := cD.out.size; have h2 : (w6.alloc (.cells #[.int .i64 kd, .int .i64 p.at_, .int .i64 p.kind, sl2, sl3] 64)).heap.size = w6.heap.size + 1 := Array.size_push ..; omega) ?_; intro A' c' w9 hO' hCh hat; have hCh2 := (((Chg.refl (Value.slice Aa (List.length acc) ca).ownBlock.toList w6).alloc _).trans hCh); have s9 := sD.out.chg hCh2 (fun hm => hn3 (by simpa using hm)); have y3 := s9.c0.2.2.2; have f3 := s9.f0 3; replace s9 := Lib.hid s9; replace hO' := Lib.hid hO'; replace hCh2 := Lib.hid hCh2; replace hat := Lib.hid hat; clear hCh z0 z1 z2 z3 z4 q3 q3a; refine hK _ _ ?_; clear hK K)
                (try simp only [Act.put, List.setIfInBounds_toArray, List.set_cons_zero, List.set_cons_succ])
                refine wpAny_take (i := 8) (v := ?_) rfl (by kernel_rfl) (by kernel_rfl) (by kernel_rfl) (fun _ _ _ h => h) (Or.inl ⟨by kernel_rfl, ?_⟩) ?_
                rotate_left
                · (intro w; go_simp; try with_reducible rfl)
                change wpAny _ _ _ _ _ _ (Act.put _ (some 104) _) _
                (try simp only [Act.put, List.setIfInBounds_toArray, List.set_cons_zero, List.set_cons_succ])
                refine wpAny_take (i := 9) (v := ?_) rfl (by kernel_rfl) (by kernel_rfl) (by kernel_rfl) (fun _ _ _ h => h) (Or.inl ⟨by kernel_rfl, ?_⟩) ?_
                rotate_left
                · (intro w; go_simp; try with_reducible rfl)
                change wpAny _ _ _ _ _ _ (Act.put _ (some 105) _) _
                (try simp only [Act.put, List.setIfInBounds_toArray, List.set_cons_zero, List.set_cons_succ])
                refine wpAny_ready (rs := [10]) (by kernel_rfl) (by simp) ?_
                refine AllReady.cons rfl (fun K hK => ?_) ?_
                · go_simp
                  (try (refine hK _ _ ?_; clear hK K))
                  (try simp only [Act.put, List.setIfInBounds_toArray, List.set_cons_zero, List.set_cons_succ])
                  refine wpAny_done (by kernel_rfl) ?_ _
                  (try simp only [Act.put, List.setIfInBounds_toArray, List.set_cons_zero, List.set_cons_succ])
                  clear y3 f3
                  have hlen : List.length (acc ++ [Arm.mk kd p body]) = List.length acc + 1 := by simp
                  have hnew : ∀ q, q < w6.heap.size → (Value.slice Aa (List.length acc) ca).ownBlock ≠ some q → (Value.slice A' (List.length acc + 1) c').ownBlock ≠ some q := fun q hq hn e => by
                    rcases hat.out with h | h
                    · exact hn (h ▸ e)
                    · have := h q e; (try simp at this); omega
                  have hgs := hgl.out
                  have hws := cD.out.size
                  have hown' : (Value.slice A' (List.length acc + 1) c').ownBlock ≠ some g := hnew g (by omega) hn3
                  have hS := (Chg.refl [g] w9).setCell (p := ⟨g, 3, none⟩) (.inl (by simp)) (.slice A' (List.length acc + 1) c')
                  have hoff : ∀ q, Bf q → q < w6.heap.size → q ∉ (Value.slice Aa (List.length acc) ca).ownBlock.toList := fun q hq _ hm => by
                    rw [← hBf.out] at hq
                    simp at hm
                    exact hq.2.2 hm
                  have hg9 : ∀ q, Bf q → q ∉ [g] := fun q hq hm => by rw [← hBf.out] at hq; simp at hm; exact hq.2.1 hm
                  have hto : ∀ q, (Bf q ∧ q < w6.heap.size) → Off B g (.slice A' (List.length acc + 1) c') q := fun q hq => by
                    obtain ⟨h1, h2⟩ := hq
                    rw [← hBf.out] at h1
                    exact ⟨h1.1, h1.2.1, hnew q h2 h1.2.2⟩
                  have hI' : RLs w (w9.setCell ⟨g, 3, none⟩ (.slice A' (List.length acc + 1) c')) B g k0 a0 s0 (some ⟨b, o, none⟩) n c ws A' c' (acc ++ [Arm.mk kd p body]) (zs ++ [.int .i64 kd, .int .i64 p.at_, .int .i64 p.kind, sl2, sl3]) := by
                    unfold RLs
                    rw [hlen]
                    refine ⟨?_, own_chg hO'.out hS (fun q hq hm => by simp at hm; subst hm; exact hown' hq), ?_, (cD.out.then hCh2.out (fun q hq => .inr (by have := (oI.out.lt q (by simpa using hq)).1; omega))).trans hS, s9.out.put3 _⟩
                    · exact (((hWD.out.imp (B' := fun q => Bf q ∧ q < w6.heap.size) (fun q hq hl => by rw [← hBo.out] at hq; exact ⟨hq.1, hl⟩)).chg hCh2.out (fun q hq _ => hoff q hq.1 hq.2)).chg hS (fun q hq _ => hg9 q hq.1)).imp (fun q hq _ => hto q hq)
                    · exact armsC.imp (fun q hq _ => hto q hq) _ _ (armsC.chg hS (fun q hq _ => hg9 q hq.1) _ _ (armsC.chg hCh2.out (fun q hq _ => hoff q hq.1 hq.2) _ _ (armsC.imp (fun q hq hl => ⟨hq, hl⟩) _ _ aD.out)))
                  replace hI' := Lib.hid hI'
                  clear hO' hCh2 hat hnew hoff hto hS hg9 hown' s9 hWD aD cD sD oD
                  go_wp2_with fail
                  go_roundg (n - i2)
                  case measure => omega
                  case rel => exact ⟨i2, k', A', c', acc ++ [Arm.mk kd p body], _, rfl, hi3, rfl, by omega, by rw [hlen]; exact hacc2, hI', hst3⟩
                exact AllReady.nil
              exact AllReady.nil
            exact AllReady.nil
          exact AllReady.nil
        refine AllReady.cons rfl (fun K hK => ?_) ?_
        · go_simp
          (try (refine hK _ _ ?_; clear hK K))
          (try simp only [Act.put, List.setIfInBounds_toArray, List.set_cons_zero, List.set_cons_succ])
          refine wpAny_ready (rs := [4, 6]) (by kernel_rfl) (by simp) ?_
          refine AllReady.cons rfl (fun K hK => ?_) ?_
          · go_simp
            (try (refine hK _ _ ?_; clear hK K))
            (try simp only [Act.put, List.setIfInBounds_toArray, List.set_cons_zero, List.set_cons_succ])
            refine wpAny_ready (rs := [6]) (by kernel_rfl) (by simp) ?_
            refine AllReady.cons rfl (fun K hK => ?_) ?_
            · go_simp
              (try (refine hK _ _ ?_; clear hK K))
              (try simp only [Act.put, List.setIfInBounds_toArray, List.set_cons_zero, List.set_cons_succ])
              refine wpAny_ready (rs := [7]) (by kernel_rfl) (by simp) ?_
              refine AllReady.cons rfl (fun K hK => ?_) ?_
              · (refine step_append_sl rfl (.tmp 100) (.tmp 102) 59 rfl w.heap.size 64 (.agg #[.int .i64 0, .int .i64 0, .int .i64 0, .slice none 0 0, .slice none 0 0]) 5 72 Try.underlying59 Try.info_rarm rfl (by decide) _ (List.length acc) zs (oD.out.alloc _) rfl _ 1 [.int .i64 kd, .int .i64 p.at_, .int .i64 p.kind, sl2, sl3] (sl_wide_new w6 _ 64 5 rfl) rfl (by intro u hu; simp at hu; rcases hu with rfl | rfl | rfl | rfl | rfl <;> first | rfl | exact ho2 | exact ho3) (List.length acc + 1) rfl (by omega) (by decide) (by have h1 := cD.out.size; have h2 : (w6.alloc (.cells #[.int .i64 kd, .int .i64 p.at_, .int .i64 p.kind, sl2, sl3] 64)).heap.size = w6.heap.size + 1 := Array.size_push ..; omega) ?_; intro A' c' w9 hO' hCh hat; have hCh2 := (((Chg.refl (Value.slice Aa (List.length acc) ca).ownBlock.toList w6).alloc _).trans hCh); have s9 := sD.out.chg hCh2 (fun hm => hn3 (by simpa using hm)); have y3 := s9.c0.2.2.2; have f3 := s9.f0 3; replace s9 := Lib.hid s9; replace hO' := Lib.hid hO'; replace hCh2 := Lib.hid hCh2; replace hat := Lib.hid hat; clear hCh z0 z1 z2 z3 z4 q3 q3a; refine hK _ _ ?_; clear hK K)
                (try simp only [Act.put, List.setIfInBounds_toArray, List.set_cons_zero, List.set_cons_succ])
                refine wpAny_take (i := 8) (v := ?_) rfl (by kernel_rfl) (by kernel_rfl) (by kernel_rfl) (fun _ _ _ h => h) (Or.inl ⟨by kernel_rfl, ?_⟩) ?_
                rotate_left
                · (intro w; go_simp; try with_reducible rfl)
                change wpAny _ _ _ _ _ _ (Act.put _ (some 104) _) _
                (try simp only [Act.put, List.setIfInBounds_toArray, List.set_cons_zero, List.set_cons_succ])
                refine wpAny_take (i := 9) (v := ?_) rfl (by kernel_rfl) (by kernel_rfl) (by kernel_rfl) (fun _ _ _ h => h) (Or.inl ⟨by kernel_rfl, ?_⟩) ?_
                rotate_left
                · (intro w; go_simp; try with_reducible rfl)
                change wpAny _ _ _ _ _ _ (Act.put _ (some 105) _) _
                (try simp only [Act.put, List.setIfInBounds_toArray, List.set_cons_zero, List.set_cons_succ])
                refine wpAny_ready (rs := [10]) (by kernel_rfl) (by simp) ?_
                refine AllReady.cons rfl (fun K hK => ?_) ?_
                · go_simp
                  (try (refine hK _ _ ?_; clear hK K))
                  (try simp only [Act.put, List.setIfInBounds_toArray, List.set_cons_zero, List.set_cons_succ])
                  refine wpAny_done (by kernel_rfl) ?_ _
                  (try simp only [Act.put, List.setIfInBounds_toArray, List.set_cons_zero, List.set_cons_succ])
                  clear y3 f3
                  have hlen : List.length (acc ++ [Arm.mk kd p body]) = List.length acc + 1 := by simp
                  have hnew : ∀ q, q < w6.heap.size → (Value.slice Aa (List.length acc) ca).ownBlock ≠ some q → (Value.slice A' (List.length acc + 1) c').ownBlock ≠ some q := fun q hq hn e => by
                    rcases hat.out with h | h
                    · exact hn (h ▸ e)
                    · have := h q e; (try simp at this); omega
                  have hgs := hgl.out
                  have hws := cD.out.size
                  have hown' : (Value.slice A' (List.length acc + 1) c').ownBlock ≠ some g := hnew g (by omega) hn3
                  have hS := (Chg.refl [g] w9).setCell (p := ⟨g, 3, none⟩) (.inl (by simp)) (.slice A' (List.length acc + 1) c')
                  have hoff : ∀ q, Bf q → q < w6.heap.size → q ∉ (Value.slice Aa (List.length acc) ca).ownBlock.toList := fun q hq _ hm => by
                    rw [← hBf.out] at hq
                    simp at hm
                    exact hq.2.2 hm
                  have hg9 : ∀ q, Bf q → q ∉ [g] := fun q hq hm => by rw [← hBf.out] at hq; simp at hm; exact hq.2.1 hm
                  have hto : ∀ q, (Bf q ∧ q < w6.heap.size) → Off B g (.slice A' (List.length acc + 1) c') q := fun q hq => by
                    obtain ⟨h1, h2⟩ := hq
                    rw [← hBf.out] at h1
                    exact ⟨h1.1, h1.2.1, hnew q h2 h1.2.2⟩
                  have hI' : RLs w (w9.setCell ⟨g, 3, none⟩ (.slice A' (List.length acc + 1) c')) B g k0 a0 s0 (some ⟨b, o, none⟩) n c ws A' c' (acc ++ [Arm.mk kd p body]) (zs ++ [.int .i64 kd, .int .i64 p.at_, .int .i64 p.kind, sl2, sl3]) := by
                    unfold RLs
                    rw [hlen]
                    refine ⟨?_, own_chg hO'.out hS (fun q hq hm => by simp at hm; subst hm; exact hown' hq), ?_, (cD.out.then hCh2.out (fun q hq => .inr (by have := (oI.out.lt q (by simpa using hq)).1; omega))).trans hS, s9.out.put3 _⟩
                    · exact (((hWD.out.imp (B' := fun q => Bf q ∧ q < w6.heap.size) (fun q hq hl => by rw [← hBo.out] at hq; exact ⟨hq.1, hl⟩)).chg hCh2.out (fun q hq _ => hoff q hq.1 hq.2)).chg hS (fun q hq _ => hg9 q hq.1)).imp (fun q hq _ => hto q hq)
                    · exact armsC.imp (fun q hq _ => hto q hq) _ _ (armsC.chg hS (fun q hq _ => hg9 q hq.1) _ _ (armsC.chg hCh2.out (fun q hq _ => hoff q hq.1 hq.2) _ _ (armsC.imp (fun q hq hl => ⟨hq, hl⟩) _ _ aD.out)))
                  replace hI' := Lib.hid hI'
                  clear hO' hCh2 hat hnew hoff hto hS hg9 hown' s9 hWD aD cD sD oD
                  go_wp2_with fail
                  go_roundg (n - i2)
                  case measure => omega
                  case rel => exact ⟨i2, k', A', c', acc ++ [Arm.mk kd p body], _, rfl, hi3, rfl, by omega, by rw [hlen]; exact hacc2, hI', hst3⟩
                exact AllReady.nil
              exact AllReady.nil
            exact AllReady.nil
          refine AllReady.cons rfl (fun K hK => ?_) ?_
          · go_simp
            (try (refine hK _ _ ?_; clear hK K))
            (try simp only [Act.put, List.setIfInBounds_toArray, List.set_cons_zero, List.set_cons_succ])
            refine wpAny_ready (rs := [4]) (by kernel_rfl) (by simp) ?_
            refine AllReady.cons rfl (fun K hK => ?_) ?_
            · go_simp
              (try (refine hK _ _ ?_; clear hK K))
              (try simp only [Act.put, List.setIfInBounds_toArray, List.set_cons_zero, List.set_cons_succ])
              refine wpAny_ready (rs := [7]) (by kernel_rfl) (by simp) ?_
              refine AllReady.cons rfl (fun K hK => ?_) ?_
              · (refine step_append_sl rfl (.tmp 100) (.tmp 102) 59 rfl w.heap.size 64 (.agg #[.int .i64 0, .int .i64 0, .int .i64 0, .slice none 0 0, .slice none 0 0]) 5 72 Try.underlying59 Try.info_rarm rfl (by decide) _ (List.length acc) zs (oD.out.alloc _) rfl _ 1 [.int .i64 kd, .int .i64 p.at_, .int .i64 p.kind, sl2, sl3] (sl_wide_new w6 _ 64 5 rfl) rfl (by intro u hu; simp at hu; rcases hu with rfl | rfl | rfl | rfl | rfl <;> first | rfl | exact ho2 | exact ho3) (List.length acc + 1) rfl (by omega) (by decide) (by have h1 := cD.out.size; have h2 : (w6.alloc (.cells #[.int .i64 kd, .int .i64 p.at_, .int .i64 p.kind, sl2, sl3] 64)).heap.size = w6.heap.size + 1 := Array.size_push ..; omega) ?_; intro A' c' w9 hO' hCh hat; have hCh2 := (((Chg.refl (Value.slice Aa (List.length acc) ca).ownBlock.toList w6).alloc _).trans hCh); have s9 := sD.out.chg hCh2 (fun hm => hn3 (by simpa using hm)); have y3 := s9.c0.2.2.2; have f3 := s9.f0 3; replace s9 := Lib.hid s9; replace hO' := Lib.hid hO'; replace hCh2 := Lib.hid hCh2; replace hat := Lib.hid hat; clear hCh z0 z1 z2 z3 z4 q3 q3a; refine hK _ _ ?_; clear hK K)
                (try simp only [Act.put, List.setIfInBounds_toArray, List.set_cons_zero, List.set_cons_succ])
                refine wpAny_take (i := 8) (v := ?_) rfl (by kernel_rfl) (by kernel_rfl) (by kernel_rfl) (fun _ _ _ h => h) (Or.inl ⟨by kernel_rfl, ?_⟩) ?_
                rotate_left
                · (intro w; go_simp; try with_reducible rfl)
                change wpAny _ _ _ _ _ _ (Act.put _ (some 104) _) _
                (try simp only [Act.put, List.setIfInBounds_toArray, List.set_cons_zero, List.set_cons_succ])
                refine wpAny_take (i := 9) (v := ?_) rfl (by kernel_rfl) (by kernel_rfl) (by kernel_rfl) (fun _ _ _ h => h) (Or.inl ⟨by kernel_rfl, ?_⟩) ?_
                rotate_left
                · (intro w; go_simp; try with_reducible rfl)
                change wpAny _ _ _ _ _ _ (Act.put _ (some 105) _) _
                (try simp only [Act.put, List.setIfInBounds_toArray, List.set_cons_zero, List.set_cons_succ])
                refine wpAny_ready (rs := [10]) (by kernel_rfl) (by simp) ?_
                refine AllReady.cons rfl (fun K hK => ?_) ?_
                · go_simp
                  (try (refine hK _ _ ?_; clear hK K))
                  (try simp only [Act.put, List.setIfInBounds_toArray, List.set_cons_zero, List.set_cons_succ])
                  refine wpAny_done (by kernel_rfl) ?_ _
                  (try simp only [Act.put, List.setIfInBounds_toArray, List.set_cons_zero, List.set_cons_succ])
                  clear y3 f3
                  have hlen : List.length (acc ++ [Arm.mk kd p body]) = List.length acc + 1 := by simp
                  have hnew : ∀ q, q < w6.heap.size → (Value.slice Aa (List.length acc) ca).ownBlock ≠ some q → (Value.slice A' (List.length acc + 1) c').ownBlock ≠ some q := fun q hq hn e => by
                    rcases hat.out with h | h
                    · exact hn (h ▸ e)
                    · have := h q e; (try simp at this); omega
                  have hgs := hgl.out
                  have hws := cD.out.size
                  have hown' : (Value.slice A' (List.length acc + 1) c').ownBlock ≠ some g := hnew g (by omega) hn3
                  have hS := (Chg.refl [g] w9).setCell (p := ⟨g, 3, none⟩) (.inl (by simp)) (.slice A' (List.length acc + 1) c')
                  have hoff : ∀ q, Bf q → q < w6.heap.size → q ∉ (Value.slice Aa (List.length acc) ca).ownBlock.toList := fun q hq _ hm => by
                    rw [← hBf.out] at hq
                    simp at hm
                    exact hq.2.2 hm
                  have hg9 : ∀ q, Bf q → q ∉ [g] := fun q hq hm => by rw [← hBf.out] at hq; simp at hm; exact hq.2.1 hm
                  have hto : ∀ q, (Bf q ∧ q < w6.heap.size) → Off B g (.slice A' (List.length acc + 1) c') q := fun q hq => by
                    obtain ⟨h1, h2⟩ := hq
                    rw [← hBf.out] at h1
                    exact ⟨h1.1, h1.2.1, hnew q h2 h1.2.2⟩
                  have hI' : RLs w (w9.setCell ⟨g, 3, none⟩ (.slice A' (List.length acc + 1) c')) B g k0 a0 s0 (some ⟨b, o, none⟩) n c ws A' c' (acc ++ [Arm.mk kd p body]) (zs ++ [.int .i64 kd, .int .i64 p.at_, .int .i64 p.kind, sl2, sl3]) := by
                    unfold RLs
                    rw [hlen]
                    refine ⟨?_, own_chg hO'.out hS (fun q hq hm => by simp at hm; subst hm; exact hown' hq), ?_, (cD.out.then hCh2.out (fun q hq => .inr (by have := (oI.out.lt q (by simpa using hq)).1; omega))).trans hS, s9.out.put3 _⟩
                    · exact (((hWD.out.imp (B' := fun q => Bf q ∧ q < w6.heap.size) (fun q hq hl => by rw [← hBo.out] at hq; exact ⟨hq.1, hl⟩)).chg hCh2.out (fun q hq _ => hoff q hq.1 hq.2)).chg hS (fun q hq _ => hg9 q hq.1)).imp (fun q hq _ => hto q hq)
                    · exact armsC.imp (fun q hq _ => hto q hq) _ _ (armsC.chg hS (fun q hq _ => hg9 q hq.1) _ _ (armsC.chg hCh2.out (fun q hq _ => hoff q hq.1 hq.2) _ _ (armsC.imp (fun q hq hl => ⟨hq, hl⟩) _ _ aD.out)))
                  replace hI' := Lib.hid hI'
                  clear hO' hCh2 hat hnew hoff hto hS hg9 hown' s9 hWD aD cD sD oD
                  go_wp2_with fail
                  go_roundg (n - i2)
                  case measure => omega
                  case rel => exact ⟨i2, k', A', c', acc ++ [Arm.mk kd p body], _, rfl, hi3, rfl, by omega, by rw [hlen]; exact hacc2, hI', hst3⟩
                exact AllReady.nil
              exact AllReady.nil
            exact AllReady.nil
          exact AllReady.nil
        exact AllReady.nil
    · obtain rfl : i = n := by omega
      have hE : R = .ok acc := by
        have := hR.out
        rw [List.drop_eq_nil_of_le (by have := hn.out; omega)] at this
        have e2 : armsGo rec k [] acc = .ok acc := by cases k <;> rfl
        exact this.symm.trans e2
      by_cases h0 : acc = []
      · subst h0
        replace hE := Lib.hid hE
        clear hR
        go_wp2_with fail
        (try rw [Exit.noGoto_ret])
        go_ret2
        exact ⟨cI.out, .inr ⟨a0, 2, _, .inr ⟨hE.out, rfl, rfl⟩, by decide, rfl, sI.out, rfl⟩⟩
      · have hl0 : ((List.length acc : Int) == 0) = false := by rw [beq_eq_false_iff_ne]; have : acc.length ≠ 0 := fun h => h0 (List.length_eq_zero_iff.1 h); omega
        replace hE := Lib.hid hE
        replace h0 := Lib.hid h0
        clear hR
        go_wp2_with fail
        go_ret2
        exact ⟨cI.out, .inl ⟨acc, Aa, ca, zs, hE.out, h0.out, rfl, sI.out, own_sl oI.out, fun q _ hq => ⟨⟨hB.out q (oI.out.lt q hq).1, fun e => hn3 (e ▸ hq), by simp [Value.ownBlock]⟩, (oI.out.lt q hq).2⟩, armsC.imp (fun q hq _ => ⟨hq.1, hq.2.1, by simp [Value.ownBlock]⟩) _ _ aI.out⟩⟩
end Rp
end Go.Proofs.Ytakcolililbkjaa
namespace Go.Proofs.Ytakcolililbkjaa
namespace Rp
open Go.RowKit Tcl Plan Pl
theorem Try.size_rop : (Try.prog.info? 61).map (·.size) = some 4 := by kernel_rfl
theorem Try.info_word3 : (Try.prog.info? 38).map (fun i => (i.zero, i.size, i.bytes)) = some (some (.agg #[.int .i64 0, .int .i64 0, .slice none 0 0]), 3, 40) := by kernel_rfl
theorem wp_store_rop {o : Oper} {a : Act} {w : World} {K : Act → World → Prop} {Q : Exit → Act → World → Prop} (x y : Operand) (ho : o.op = .store 61 x y) (g : Nat) (k c : Int) (s b : Value)
    (hs : s.oneCell' = true) (hb : b.oneCell' = true) (hx : a.eval x = .pointer (some ⟨g, 0, none⟩)) (hy : a.eval y = .agg #[.int .i64 k, .int .i64 c, s, b]) {k0 c0 : Int} {s0 b0 : Value} (hg : ROS w g k0 c0 s0 b0)
    (h : K (a.put o.dst undef) (w.setRow g #[.int .i64 k, .int .i64 c, s, b])) : o.wp Try.prog a w K Q :=
  wp_store_row 61 x y ho g #[.int .i64 k, .int .i64 c, s, b] hx hy 61 _ hg Try.size_rop rfl (op_one hs hb) h
theorem wpList_store_rop {ops : Array Oper} {rest : List Oper} {o : Oper} {a : Act} {w : World} {Q : Exit → Act → World → Prop} (hgd : o.guard = none) (x y : Operand) (ho : o.op = .store 61 x y) (g : Nat) (k c : Int) (s b : Value)
    (hs : s.oneCell' = true) (hb : b.oneCell' = true) (hx : a.eval x = .pointer (some ⟨g, 0, none⟩)) (hy : a.eval y = .agg #[.int .i64 k, .int .i64 c, s, b]) {k0 c0 : Int} {s0 b0 : Value} (hg : ROS w g k0 c0 s0 b0)
    (h : wpList Try.prog ops Q rest (a.put o.dst undef) (w.setRow g #[.int .i64 k, .int .i64 c, s, b])) : wpList Try.prog ops Q (o :: rest) a w :=
  wpList_store_row hgd 61 x y ho g #[.int .i64 k, .int .i64 c, s, b] hx hy 61 _ hg Try.size_rop rfl (op_one hs hb) h
theorem ROS.put {w : World} {g : Nat} {k a : Int} {s b : Value} (h : ROS w g k a s b) (k' a' : Int) (s' b' : Value) : ROS (w.setRow g #[.int .i64 k', .int .i64 a', s', b']) g k' a' s' b' := setRow_heap _ _ _ _ _ _ h
theorem ROS.put2 {w : World} {g : Nat} {k a : Int} {s b : Value} (h : ROS w g k a s b) (s' : Value) : ROS (w.setCell ⟨g, 2, none⟩ s') g k a s' b := blk_set h 2 s'
theorem results_cell3 {P : Program} {fn : Func} {p u v : Tmp} {ty : TypeId} (h : fn.results = #[.cell p ty, .tmp u, .tmp v]) (tmps : Array Value) (w : World) (g : Nat) (t : TypeId) (cs : Array Value) (d : TypeDesc) (b c : Value)
    (hp : tmps.getD p undef = .pointer (some ⟨g, 0, none⟩)) (hg : w.heap[g]? = some (.cells cs t (0, 0)))
    (hu : P.underlying ty = some d) (hd : (match d with | .struct _ | .array _ _ => true | _ => false) = true) (hi : (P.info? ty).map (·.size) = some cs.size) (hb : tmps.getD u undef = b) (hc : tmps.getD v undef = c) :
    (results fn tmps).run P w = .ok (.tuple #[.agg cs, b, c]) w := by
  have hp' : tmps[p]?.getD undef = .pointer (some ⟨g, 0, none⟩) := by simpa using hp
  have hb' : tmps[u]?.getD undef = b := by simpa using hb
  have hc' : tmps[v]?.getD undef = c := by simpa using hc
  simp [results, h, hp', hb', hc', asAddr, run_loadVar_row w g t ty cs (0, 0) d hg hu hd hi]
/-- What the reference's `command` tells. -/
def RCoEnd (w : World) (B : Nat → Prop) (r : Except Bad Plan.Op) (e : Ending) (w' : World) : Prop :=
  Chg [] w w' ∧ ((∃ o v0 v1 v2 v3, r = .ok o ∧ e = .returned (.tuple #[.agg #[v0, v1, v2, v3], .int .i64 0, .int .i64 0]) ∧ opC w' B [v0, v1, v2, v3] o)
    ∨ (∃ (p q : Nat) (k a : Int) (s b : Value), r = .error (p, q) ∧ q ≠ 0 ∧ e = .returned (.tuple #[.agg #[.int .i64 k, .int .i64 a, s, b], .int .i64 p, .int .i64 q]) ∧ s.oneCell' = true ∧ b.oneCell' = true))
/-- Words in a row of one's own, their parts in older blocks. -/
def WR (wr : World) (B : Nat → Prop) (base : Nat) (A : Option Addr) (m c : Nat) (ws : List Word) : Prop :=
  m = ws.length ∧ ∃ ys, wr.ownsRow base 38 3 (.slice A m c) m ys ∧ wordsC wr (fun q => B q ∧ q < base) ys ws
theorem WR.chg {w w' : World} {S : List Nat} {B : Nat → Prop} {base : Nat} {A : Option Addr} {m c : Nat} {ws : List Word} (h : WR w B base A m c ws) (hc : Chg S w w') (hS : ∀ q, B q → q < base → q ∉ S) (hA : ∀ q, (Value.slice A m c).ownBlock = some q → q ∉ S) : WR w' B base A m c ws := by
  obtain ⟨h0, ys, h1, h2⟩ := h
  exact ⟨h0, ys, own_chg h1 hc hA, wordsC.chg hc (fun q hq _ => hS q hq.1 hq.2) h2⟩
theorem WR.wsv {w : World} {B : Nat → Prop} {base : Nat} {A : Option Addr} {m c : Nat} {ws : List Word} (h : WR w B base A m c ws) (hB : ∀ q, base ≤ q → B q) : WsV w (fun q => B q ∧ q < w.heap.size) A m c ws := by
  obtain ⟨h0, ys, h1, h2⟩ := h
  exact ⟨h0, ys, own_sl h1, fun q _ hq => ⟨⟨hB q (h1.lt q hq).1, (h1.lt q hq).2⟩, (h1.lt q hq).2⟩, wordsC.imp (fun q hq hl => ⟨hq.1, hl⟩) h2⟩
theorem wordsC_snoc {w : World} {B : Nat → Prop} : ∀ {ws : List Word} {ys h : List Value} {wd : Word}, wordsC w B ys ws → wordC w B h wd → wordsC w B (ys ++ h) (ws ++ [wd]) := by
  intro ws
  induction ws with
  | nil => intro ys h wd h1 h2; rw [show ys = [] from h1]; exact ⟨h, [], by simp, h2, rfl⟩
  | cons a r ih =>
    intro ys h wd h1 h2
    obtain ⟨p, t, rfl, h3, h4⟩ := h1
    exact ⟨p, t ++ h, by simp, h3, ih h4 h2⟩
/-- The words of commands, so much further on. -/
def Wf (fr : Nat) (cs : List Cmd) : List Word := (cs.map (fun c => c.words.map (shiftW fr))).flatten
theorem Wf_append (fr : Nat) (a b : List Cmd) : Wf fr (a ++ b) = Wf fr a ++ Wf fr b := by unfold Wf; simp
theorem Wf_succ {fr : Nat} {cs : List Cmd} {i : Nat} {cm : Cmd} (h : cs[i]? = some cm) : Wf fr (cs.take (i + 1)) = Wf fr (cs.take i) ++ cm.words.map (shiftW fr) := by
  rw [take_get h, Wf_append]; unfold Wf; simp
theorem Wf_len {fr : Nat} {cs : List Cmd} {i : Nat} {cm : Cmd} (h : cs[i]? = some cm) : (Wf fr (cs.take i)).length + cm.words.length ≤ (Wf fr cs).length := by
  have e : cs = cs.take i ++ cm :: cs.drop (i + 1) := by rw [← drop_get h, List.take_append_drop]
  have : (Wf fr cs).length = (Wf fr (cs.take i)).length + (Wf fr (cm :: cs.drop (i + 1))).length := by rw [← List.length_append, ← Wf_append, ← e]
  rw [this]
  unfold Wf
  simp
theorem Wf_sum (fr : Nat) (cs : List Cmd) : (Wf fr cs).length = (cs.map (fun c => c.words.length)).sum := by
  unfold Wf
  rw [List.length_flatten, List.map_map]
  congr 1
  apply List.map_congr_left
  intro c _
  simp
theorem Wf_args (fr : Nat) (cs : List Cmd) : ((cs.map (shiftC fr)).map Cmd.words).flatten = Wf fr cs := by
  unfold Wf; rw [List.map_map]; rfl
theorem WR.wsv' {w : World} {B B3 : Nat → Prop} {base : Nat} {A : Option Addr} {m c : Nat} {ws : List Word} (h : WR w B base A m c ws) (h1 : ∀ q, B q → q < base → B3 q) (h2 : ∀ q, base ≤ q → B3 q) : WsV w B3 A m c ws := by
  obtain ⟨h0, ys, k1, k2⟩ := h
  exact ⟨h0, ys, own_sl k1, fun q _ hq => ⟨h2 q (k1.lt q hq).1, (k1.lt q hq).2⟩, wordsC.imp (fun q hq hl => h1 q hq.1 hq.2) k2⟩
/-- A command's words, and their places, as the reference's `Parse` tells them. -/
theorem cm_cell {w : World} {base : Nat} {A : Option Addr} {n c : Nat} {xs : List Value} {cs : List Cmd} (hS : Sl w 2 (.slice A n c) n xs) (hC : CmdsAt w base (Value.slice A n c).ownBlock xs cs) {i : Nat} {cm : Cmd} (hi : cs[i]? = some cm) :
    ∃ b o A1 c1, A = some ⟨b, o, none⟩ ∧ w.cell? ⟨b, o + i * 2 + 1, none⟩ = some (.slice A1 cm.words.length c1) ∧ cm.words.length ≤ 9223372036854775807 ∧
      ∀ k wd, cm.words[k]? = some wd → ∃ b1 o1 Ap cp, A1 = some ⟨b1, o1, none⟩ ∧ w.cell? ⟨b1, o1 + k * 3, none⟩ = some (.int .i64 wd.at_) ∧ w.cell? ⟨b1, o1 + k * 3 + 1, none⟩ = some (.int .i64 wd.kind) ∧ w.cell? ⟨b1, o1 + k * 3 + 2, none⟩ = some (.slice Ap wd.parts.length cp) ∧
        PartsAt w (.slice Ap wd.parts.length cp) wd.parts ∧ Blk w (fun q => base ≤ q ∧ q < w.heap.size) (.slice Ap wd.parts.length cp) wd.parts.length := by
  have hil := (List.getElem?_eq_some_iff.1 hi).1
  obtain ⟨A1, c1, ys, e0, e1, k1, k2, -⟩ := hC.2 i cm hi
  have hl := hC.1
  obtain ⟨b, o, rfl, hr⟩ := sl_row hS (by omega)
  refine ⟨b, o, A1, c1, rfl, by rw [Nat.add_assoc]; exact hr _ _ e1, ?_, fun k wd hk => ?_⟩
  · obtain ⟨A0, c0, e, j0, j1, j2, -⟩ := k1
    simp only [Value.slice.injEq] at e
    obtain ⟨-, -, rfl⟩ := e
    unfold maxLen at j2; omega
  · have hkl := (List.getElem?_eq_some_iff.1 hk).1
    have hl2 := k2.1
    obtain ⟨b1, o1, rfl, hr1⟩ := sl_row k1 (by omega)
    obtain ⟨Ap, cp, f0, f1, f2, f3, f4⟩ := k2.2 k wd hk
    exact ⟨b1, o1, Ap, cp, rfl, hr1 _ _ f0, by rw [Nat.add_assoc]; exact hr1 _ _ f1, by rw [Nat.add_assoc]; exact hr1 _ _ f2, f3, fun q h0 hq => ⟨⟨(f4 q (parts_pos' h0) hq).1, (f4 q (parts_pos' h0) hq).2.1⟩, (f4 q (parts_pos' h0) hq).2.1⟩⟩
theorem argsA_one {args ws : List Word} (ha : OneW args) (h : argsA args = .ok ws) : OneW ws := by
  unfold argsA at h
  split at h
  · rename_i a
    split at h
    · split at h
      · cases h
      · rename_i l hl
        cases h
        intro w hw hk
        simp only [List.mem_flatten, List.mem_map] at hw
        obtain ⟨x, ⟨c, hc, rfl⟩, hw⟩ := hw
        unfold parseAt at hl
        split at hl
        · cases hl
        · rename_i cs hcs
          cases hl
          obtain ⟨c0, hc0, rfl⟩ := List.mem_map.1 hc
          obtain ⟨w0, hw0, rfl⟩ := List.mem_map.1 hw
          exact parse_one hcs c0 hc0 w0 hw0 hk
    · cases h; exact ha
  · cases h; exact ha
theorem WR.snoc {w3 w4 : World} {B : Nat → Prop} {base j : Nat} {A' A'' : Option Addr} {c' c'' : Nat} {ws : List Word} {ys : List Value} {wd : Word} {Ap : Option Addr} {cp : Nat} (hj : j = ws.length) (hO : w3.ownsRow base 38 3 (.slice A' j c') j ys) (hY : wordsC w3 (fun q => B q ∧ q < base) ys ws)
    (hp : PartsAt w3 (.slice Ap wd.parts.length cp) wd.parts) (hb : Blk w3 (fun q => B q ∧ q < base) (.slice Ap wd.parts.length cp) wd.parts.length)
    (hO' : w4.ownsRow base 38 3 (.slice A'' (j + 1) c'') (j + 1) (ys ++ [.int .i64 wd.at_, .int .i64 wd.kind, .slice Ap wd.parts.length cp])) (hCh : Chg (Value.slice A' j c').ownBlock.toList w3 w4) : WR w4 B base A'' (j + 1) c'' (ws ++ [wd]) := by
  have hn : ∀ q, (B q ∧ q < base) → q ∉ (Value.slice A' j c').ownBlock.toList := fun q hq hm => by simp at hm; have := (hO.lt q hm).1; omega
  exact ⟨by simp [hj], _, hO', wordsC_snoc (wordsC.chg hCh (fun q hq _ => hn q hq) hY) ⟨Ap, cp, rfl, PartsAt.chgB hp hb hCh (fun q hq _ => hn q hq), hb.chg hCh⟩⟩
theorem blk_two (w : World) (o1 o2 : Obj) : ((w.alloc o1).alloc o2).heap[w.heap.size + 1]? = some o2 := by
  have := blk_new (w.alloc o1) o2
  rwa [show (w.alloc o1).heap.size = w.heap.size + 1 from Array.size_push ..] at this
set_option maxRecDepth 100000 in
set_option maxHeartbeats 16000000 in
theorem rcommand_any (rec : List UInt8 → Nat → Except Bad (List Plan.Op)) (L M : Nat) (hrec : RRecOk rec L M) (hL : L ≤ 16777217) (hM : M ≤ 1099511627776) (hL2 : L ≤ 50001) (w : World) (B : Nat → Prop) (c : Cmd) (A : Option Addr) (n cc : Nat) (base : Nat) (body : Bool)
    (hW : WsV w B A n cc c.words) (hwd : Wd L M (c.words.map (shiftW base))) (hone : OneW c.words) (hne : c.words ≠ []) (hat : c.at_ + base ≤ M) (hn16 : n ≤ 16777216) (hB : ∀ q, w.heap.size ≤ q → B q) :
    Calls Try.prog 23 #[.agg #[.int .i64 c.at_, .slice A n cc], .int .i64 base, .bool body] w (RCoEnd w B (cmdOp rec body (shiftC base c))) := by
  obtain ⟨at_, ws⟩ := c
  simp only at hW hwd hone hne hat ⊢
  cases ws with
  | nil => exact absurd rfl hne
  | cons w0 args =>
  clear hne
  obtain ⟨R, hR⟩ : ∃ R, cmdOp rec body (shiftC base ⟨at_, w0 :: args⟩) = R := ⟨_, rfl⟩
  rw [hR]
  have hsc : shiftC base ⟨at_, w0 :: args⟩ = ⟨at_ + base, shiftW base w0 :: args.map (shiftW base)⟩ := rfl
  rw [hsc] at hR
  clear hsc
  unfold cmdOp at hR
  simp only at hR
  rw [show oneT (shiftW base w0) = oneT w0 from rfl, List.length_map] at hR
  have hnw : n = args.length + 1 := by have := hW.1; simpa using this
  obtain ⟨b, o, Ap, cp, rfl, q0, q1, q2, hp, hbk⟩ := ws_cell2 hW (k := 0) rfl
  simp only [Nat.zero_mul, Nat.add_zero] at q0 q1 q2
  have hbl := block_lt_of_cell q0
  obtain ⟨wa, hwa⟩ : ∃ wa, (w.alloc (.cells #[.int .i64 at_, .slice (some ⟨b, o, none⟩) n cc] 69)).alloc (.cells #[.int .i64 0, .int .i64 0, .slice none 0 0, .slice none 0 0] 61) = wa := ⟨_, rfl⟩
  have hCa : Chg [] w wa := by rw [← hwa]; exact ((Chg.refl [] w).alloc _).alloc _
  have hK0 : CS wa w.heap.size (.int .i64 at_) (.slice (some ⟨b, o, none⟩) n cc) := by rw [← hwa]; exact blk_alloc (blk_new _ _) _
  have hRO : ROS wa (w.heap.size + 1) 0 0 (.slice none 0 0) (.slice none 0 0) := by rw [← hwa]; exact blk_two _ _ _
  have h1 := text_any wa w0 Ap cp (hp.chg hCa (fun _ _ _ => by simp))
  unfold wordV oneV at h1
  obtain ⟨np, hnp⟩ : ∃ np, w0.parts.length = np := ⟨_, rfl⟩
  rw [hnp] at h1 q2
  have hba0 := (hwd (shiftW base w0) (by simp)).1
  simp only [shiftW] at hba0
  have hwb0 : IntKind.i64.wrap ((base : Int) + (w0.at_ : Int)) = ((w0.at_ + base : Nat) : Int) := by rw [IntWalk.i64_in _ (by omega)]; omega
  have hwb1 : IntKind.i64.wrap ((base : Int) + (at_ : Int)) = ((at_ + base : Nat) : Int) := by rw [IntWalk.i64_in _ (by omega)]; omega
  replace q0 := hCa.cell q0 (by simp)
  replace q1 := hCa.cell q1 (by simp)
  replace q2 := hCa.cell q2 (by simp)
  obtain ⟨k0, k1⟩ := hK0.c0
  have hnz : (0 : Int) < (n : Int) := by omega
  have hnz2 : 0 < n := by omega
  obtain ⟨m1, hm1⟩ : ∃ m1, args.length = m1 := ⟨_, rfl⟩
  rw [hm1] at hnw hR
  have hnm : (n : Int) - 1 = (m1 : Int) := by omega
  obtain ⟨s, hs⟩ : ∃ s, (oneT w0).getD [] = s := ⟨_, rfl⟩
  obtain ⟨ok, hok⟩ : ∃ ok, (oneT w0).isSome = ok := ⟨_, rfl⟩
  rw [hs, hok] at h1
  have hkd := Lib.hid (fun W => kind_any s W)
  obtain ⟨Z, hZ⟩ : ∃ Z, bstr s = Z := ⟨_, rfl⟩
  rw [hZ] at hkd h1
  obtain ⟨g0, hg0⟩ : ∃ g0, w.heap.size = g0 := ⟨_, rfl⟩
  obtain ⟨g6, hg6⟩ : ∃ g6, g0 + 1 = g6 := ⟨_, rfl⟩
  rw [hg0] at hK0 k0 k1 hRO
  rw [hg6] at hRO
  have hgl : Hid (w.heap.size = g0 ∧ g6 = g0 + 1 ∧ b < w.heap.size) := Lib.hid ⟨hg0, hg6.symm, hbl⟩
  replace h1 := Lib.hid h1
  obtain ⟨Bw, hBw⟩ : ∃ Bw, (fun q => B q ∧ q < w.heap.size) = Bw := ⟨_, rfl⟩
  replace hW := Lib.hid ((hW.imp (B' := Bw) (fun q hq hl => by rw [← hBw]; exact ⟨hq, hl⟩)).chg hCa (fun _ _ _ => by simp))
  replace hBw := Lib.hid hBw
  replace hCa := Lib.hid hCa
  replace hRO := Lib.hid hRO
  replace hR := Lib.hid hR
  replace hrec := Lib.hid hrec
  replace hwd := Lib.hid hwd
  replace hone := Lib.hid hone
  replace hB := Lib.hid hB
  replace hs := Lib.hid hs
  replace hok := Lib.hid hok
  replace hm1 := Lib.hid hm1
  have hn16' : m1 ≤ 16777216 := by omega
  replace hnw := Lib.hid hnw
  clear hp hbk hZ hK0 hbl
  go_enter Try.func23, Try.ntmps23
  go_upto_region 1 with fail
  (try rw [hg0])
  (try rw [hg6])
  (try rw [hwa])
  clear hwa hg6 hg0
  go_wp2_with fail
  refine (h1.out).mono ?_
  rintro e w1 ⟨rfl, hC1⟩
  clear h1
  replace q0 := hC1.cell q0 (by simp)
  replace k0 := hC1.cell k0 (by simp)
  replace k1 := hC1.cell k1 (by simp)
  replace hW := Lib.hid (hW.out.chg hC1 (fun _ _ _ => by simp))
  replace hRO := Lib.hid (hRO.out.chg hC1 (by simp))
  have hsz1 := Lib.hid (show g6 < w1.heap.size from lt_heap hRO.out)
  replace hCa := Lib.hid (hCa.out.trans hC1)
  clear hC1 q1 q2
  have yk0 := Lib.hid (fun W (hc : Chg [g6] w1 W) => hc.cell k0 (by have := hgl.out; simp; omega))
  have yk1 := Lib.hid (fun W (hc : Chg [g6] w1 W) => hc.cell k1 (by have := hgl.out; simp; omega))
  have yq0 := Lib.hid (fun W (hc : Chg [g6] w1 W) => hc.cell q0 (by have := hgl.out; simp; omega))
  cases ho : oneT w0 with
  | none =>
    obtain rfl : false = ok := by rw [← hok.out, ho]; rfl
    obtain ⟨pl, hpl⟩ : ∃ pl, w0.at_ + base = pl := ⟨_, rfl⟩
    have hE : Hid (R = .error (pl, 4)) := Lib.hid (by have := hR.out; rw [ho] at this; rw [← hpl]; exact this.symm)
    have hq0 : Hid ((4 : Nat) ≠ 0) := Lib.hid (by decide)
    rw [hpl] at hwb0
    clear ho hR hpl hkd hwb1
    go_upto_region 3 with fail
    clear k0 k1 q0
    refine wp_region_held (S := fun w' => Chg [g6] w1 w') (by kernel_rfl) ?_
    (try (change wpAnyH _ _ _ _ _ _ _ _ (World.drew _)))
    have hHeld : Chg [g6] w1 (World.drew w1) := (Chg.refl _ _).drew
    refine wpAnyH_take (i := 0) (v := ?_) rfl (by kernel_rfl) (by kernel_rfl) (by kernel_rfl) (fun _ _ _ h => h) (Or.inl ⟨by kernel_rfl, ?_⟩) (by exact hHeld) ?_
    rotate_left
    · (intro w hSw; clear hSw; go_simp; try with_reducible rfl)
    change wpAnyH _ _ _ _ _ _ _ (Act.put _ (some 36) _) _
    (try simp only [Act.put, List.setIfInBounds_toArray, List.set_cons_zero, List.set_cons_succ])
    refine wpAnyH_take (i := 1) (v := ?_) rfl (by kernel_rfl) (by kernel_rfl) (by kernel_rfl) (fun _ _ _ h => h) (Or.inl ⟨by kernel_rfl, ?_⟩) (by exact hHeld) ?_
    rotate_left
    · (intro w hSw; clear hSw; go_simp; try with_reducible rfl)
    change wpAnyH _ _ _ _ _ _ _ (Act.put _ (some 37) _) _
    (try simp only [Act.put, List.setIfInBounds_toArray, List.set_cons_zero, List.set_cons_succ])
    refine wpAnyH_take (i := 2) (v := ?_) rfl (by kernel_rfl) (by kernel_rfl) (by kernel_rfl) (fun _ _ _ h => h) (Or.inl ⟨by kernel_rfl, ?_⟩) (by exact hHeld) ?_
    rotate_left
    · (intro w hSw; clear hSw; go_simp; try with_reducible rfl)
    change wpAnyH _ _ _ _ _ _ _ (Act.put _ (some 38) _) _
    (try simp only [Act.put, List.setIfInBounds_toArray, List.set_cons_zero, List.set_cons_succ])
    refine wpAnyH_take (i := 3) (v := ?_) rfl (by kernel_rfl) (by kernel_rfl) (by kernel_rfl) (fun _ _ _ h => h) (Or.inl ⟨by kernel_rfl, ?_⟩) (by exact hHeld) ?_
    rotate_left
    · (intro w hSw; have hq := yk1.out w hSw; clear hSw; (try obtain ⟨hq, hq2, hq3⟩ := hq); go_simp; try with_reducible rfl)
    change wpAnyH _ _ _ _ _ _ _ (Act.put _ (some 39) _) _
    (try simp only [Act.put, List.setIfInBounds_toArray, List.set_cons_zero, List.set_cons_succ])
    refine wpAnyH_take (i := 4) (v := ?_) rfl (by kernel_rfl) (by kernel_rfl) (by kernel_rfl) (fun _ _ _ h => h) (Or.inl ⟨by kernel_rfl, ?_⟩) (by exact hHeld) ?_
    rotate_left
    · (intro w hSw; have hq := yk1.out w hSw; clear hSw; (try obtain ⟨hq, hq2, hq3⟩ := hq); go_simp; try with_reducible rfl)
    change wpAnyH _ _ _ _ _ _ _ (Act.put _ (some 40) _) _
    (try simp only [Act.put, List.setIfInBounds_toArray, List.set_cons_zero, List.set_cons_succ])
    refine wpAnyH_take (i := 5) (v := ?_) rfl (by kernel_rfl) (by kernel_rfl) (by kernel_rfl) (fun _ _ _ h => h) (Or.inl ⟨by kernel_rfl, ?_⟩) (by exact hHeld) ?_
    rotate_left
    · (intro w hSw; clear hSw; go_simp; try with_reducible rfl)
    change wpAnyH _ _ _ _ _ _ _ (Act.put _ (some 41) _) _
    (try simp only [Act.put, List.setIfInBounds_toArray, List.set_cons_zero, List.set_cons_succ])
    refine wpAnyH_take (i := 6) (v := ?_) rfl (by kernel_rfl) (by kernel_rfl) (by kernel_rfl) (fun _ _ _ h => h) (Or.inl ⟨by kernel_rfl, ?_⟩) (by exact hHeld) ?_
    rotate_left
    · (intro w hSw; have hq := yq0.out w hSw; clear hSw; (try obtain ⟨hq, hq2, hq3⟩ := hq); go_simp; try with_reducible rfl)
    change wpAnyH _ _ _ _ _ _ _ (Act.put _ (some 42) _) _
    (try simp only [Act.put, List.setIfInBounds_toArray, List.set_cons_zero, List.set_cons_succ])
    refine wpAnyH_take (i := 7) (v := ?_) rfl (by kernel_rfl) (by kernel_rfl) (by kernel_rfl) (fun _ _ _ h => h) (Or.inl ⟨by kernel_rfl, ?_⟩) (by exact hHeld) ?_
    rotate_left
    · (intro w hSw; clear hSw; go_simp; try with_reducible rfl)
    change wpAnyH _ _ _ _ _ _ _ (Act.put _ (some 43) _) _
    (try simp only [Act.put, List.setIfInBounds_toArray, List.set_cons_zero, List.set_cons_succ])
    refine wpAnyH_all (rs := [8]) (by kernel_rfl) (by simp) ?_
    refine AllReadyH.cons rfl (fun K hK => ?_) ?_
    · (refine wp_store_rop (.tmp 6) (.tmp 36) rfl g6 0 0 (.slice none 0 0) (.slice none 0 0) rfl rfl rfl rfl (by exact hRO.out) ?_; refine hK.out _ _ (Chg_setRow hHeld (.inl (by simp)) _) (fun hHeld => ?_); clear hK K)
      (try simp only [Act.put, List.setIfInBounds_toArray, List.set_cons_zero, List.set_cons_succ])
      refine wpAnyH_take (i := 9) (v := ?_) rfl (by kernel_rfl) (by kernel_rfl) (by kernel_rfl) (fun _ _ _ h => h) (Or.inl ⟨by kernel_rfl, ?_⟩) (by exact hHeld) ?_
      rotate_left
      · (intro w hSw; clear hSw; go_simp; try with_reducible rfl)
      change wpAnyH _ _ _ _ _ _ _ (Act.put _ (some 7) _) _
      (try simp only [Act.put, List.setIfInBounds_toArray, List.set_cons_zero, List.set_cons_succ])
      refine wpAnyH_take (i := 10) (v := ?_) rfl (by kernel_rfl) (by kernel_rfl) (by kernel_rfl) (fun _ _ _ h => h) (Or.inl ⟨by kernel_rfl, ?_⟩) (by exact hHeld) ?_
      rotate_left
      · (intro w hSw; clear hSw; go_simp; try with_reducible rfl)
      change wpAnyH _ _ _ _ _ _ _ (Act.put _ (some 8) _) _
      (try simp only [Act.put, List.setIfInBounds_toArray, List.set_cons_zero, List.set_cons_succ])
      refine wpAnyH_done (by kernel_rfl) ?_ _
      (try simp only [Act.put, List.setIfInBounds_toArray, List.set_cons_zero, List.set_cons_succ])
      go_wp2_with fail
      (try rw [Exit.noGoto_ret])
      have hF4 := ROS.put (w := World.drew w1) hRO.out 0 0 (.slice none 0 0) (.slice none 0 0)
      have hCf := hCa.out.drew.then (Chg_setRow (Chg.refl [g6] (World.drew w1)) (g := g6) (.inl (by simp)) #[.int .i64 0, .int .i64 0, .slice none 0 0, .slice none 0 0]) (by intro x hx; simp at hx; have := hgl.out; subst hx; right; omega)
      refine bodyPost_ret (v := .tuple #[.agg #[.int .i64 0, .int .i64 0, .slice none 0 0, .slice none 0 0], .int .i64 ((pl : Nat) : Int), .int .i64 ((4 : Nat) : Int)]) ?_ rfl (by unfold RCoEnd; exact ⟨hCf, .inr ⟨pl, 4, 0, 0, _, _, hE.out, hq0.out, rfl, rfl, rfl⟩⟩)
      exact results_cell3 rfl _ _ _ 61 _ _ _ _ rfl hF4 Try.underlying61 rfl (by kernel_rfl) (by rfl) (by rfl)
    exact AllReadyH.nil
  | some s0 =>
    obtain rfl : true = ok := by rw [← hok.out, ho]; rfl
    obtain rfl : s = s0 := by rw [← hs.out, ho]; rfl
    have hR1 := hR.out
    rw [ho] at hR1
    simp only at hR1
    obtain ⟨pl, hpl⟩ : ∃ pl, at_ + base = pl := ⟨_, rfl⟩
    rw [hpl] at hR1 hwb1
    clear ho hR hs hok hwb0 hba0
    unfold kindV at hkd
    cases hf : formOf s with
    | none =>
      have hE : Hid (R = .error (pl, 8)) := Lib.hid (by rw [hf] at hR1; exact hR1.symm)
      have hq0 : Hid ((8 : Nat) ≠ 0) := Lib.hid (by decide)
      rw [hf] at hkd
      clear hR1 hf hpl
      go_wp2_with fail
      refine (hkd.out _).mono ?_
      rintro e w2 ⟨rfl, rfl⟩
      clear hkd
      go_upto_region 7 with fail
      clear k0 k1 q0
      refine wp_region_held (S := fun w' => Chg [g6] w1 w') (by kernel_rfl) ?_
      (try (change wpAnyH _ _ _ _ _ _ _ _ (World.drew _)))
      have hHeld : Chg [g6] w1 (World.drew w1) := (Chg.refl _ _).drew
      refine wpAnyH_take (i := 0) (v := ?_) rfl (by kernel_rfl) (by kernel_rfl) (by kernel_rfl) (fun _ _ _ h => h) (Or.inl ⟨by kernel_rfl, ?_⟩) (by exact hHeld) ?_
      rotate_left
      · (intro w hSw; clear hSw; go_simp; try with_reducible rfl)
      change wpAnyH _ _ _ _ _ _ _ (Act.put _ (some 56) _) _
      (try simp only [Act.put, List.setIfInBounds_toArray, List.set_cons_zero, List.set_cons_succ])
      refine wpAnyH_take (i := 1) (v := ?_) rfl (by kernel_rfl) (by kernel_rfl) (by kernel_rfl) (fun _ _ _ h => h) (Or.inl ⟨by kernel_rfl, ?_⟩) (by exact hHeld) ?_
      rotate_left
      · (intro w hSw; clear hSw; go_simp; try with_reducible rfl)
      change wpAnyH _ _ _ _ _ _ _ (Act.put _ (some 57) _) _
      (try simp only [Act.put, List.setIfInBounds_toArray, List.set_cons_zero, List.set_cons_succ])
      refine wpAnyH_take (i := 2) (v := ?_) rfl (by kernel_rfl) (by kernel_rfl) (by kernel_rfl) (fun _ _ _ h => h) (Or.inl ⟨by kernel_rfl, ?_⟩) (by exact hHeld) ?_
      rotate_left
      · (intro w hSw; clear hSw; go_simp; try with_reducible rfl)
      change wpAnyH _ _ _ _ _ _ _ (Act.put _ (some 58) _) _
      (try simp only [Act.put, List.setIfInBounds_toArray, List.set_cons_zero, List.set_cons_succ])
      refine wpAnyH_take (i := 3) (v := ?_) rfl (by kernel_rfl) (by kernel_rfl) (by kernel_rfl) (fun _ _ _ h => h) (Or.inl ⟨by kernel_rfl, ?_⟩) (by exact hHeld) ?_
      rotate_left
      · (intro w hSw; have hq := yk0.out w hSw; clear hSw; (try obtain ⟨hq, hq2, hq3⟩ := hq); go_simp; try with_reducible rfl)
      change wpAnyH _ _ _ _ _ _ _ (Act.put _ (some 59) _) _
      (try simp only [Act.put, List.setIfInBounds_toArray, List.set_cons_zero, List.set_cons_succ])
      refine wpAnyH_take (i := 4) (v := ?_) rfl (by kernel_rfl) (by kernel_rfl) (by kernel_rfl) (fun _ _ _ h => h) (Or.inl ⟨by kernel_rfl, ?_⟩) (by exact hHeld) ?_
      rotate_left
      · (intro w hSw; clear hSw; go_simp; try with_reducible rfl)
      change wpAnyH _ _ _ _ _ _ _ (Act.put _ (some 60) _) _
      (try simp only [Act.put, List.setIfInBounds_toArray, List.set_cons_zero, List.set_cons_succ])
      refine wpAnyH_all (rs := [5]) (by kernel_rfl) (by simp) ?_
      refine AllReadyH.cons rfl (fun K hK => ?_) ?_
      · (refine wp_store_rop (.tmp 6) (.tmp 56) rfl g6 0 0 (.slice none 0 0) (.slice none 0 0) rfl rfl rfl rfl (by exact hRO.out) ?_; refine hK.out _ _ (Chg_setRow hHeld (.inl (by simp)) _) (fun hHeld => ?_); clear hK K)
        (try simp only [Act.put, List.setIfInBounds_toArray, List.set_cons_zero, List.set_cons_succ])
        refine wpAnyH_take (i := 6) (v := ?_) rfl (by kernel_rfl) (by kernel_rfl) (by kernel_rfl) (fun _ _ _ h => h) (Or.inl ⟨by kernel_rfl, ?_⟩) (by exact hHeld) ?_
        rotate_left
        · (intro w hSw; clear hSw; go_simp; try with_reducible rfl)
        change wpAnyH _ _ _ _ _ _ _ (Act.put _ (some 7) _) _
        (try simp only [Act.put, List.setIfInBounds_toArray, List.set_cons_zero, List.set_cons_succ])
        refine wpAnyH_take (i := 7) (v := ?_) rfl (by kernel_rfl) (by kernel_rfl) (by kernel_rfl) (fun _ _ _ h => h) (Or.inl ⟨by kernel_rfl, ?_⟩) (by exact hHeld) ?_
        rotate_left
        · (intro w hSw; clear hSw; go_simp; try with_reducible rfl)
        change wpAnyH _ _ _ _ _ _ _ (Act.put _ (some 8) _) _
        (try simp only [Act.put, List.setIfInBounds_toArray, List.set_cons_zero, List.set_cons_succ])
        refine wpAnyH_done (by kernel_rfl) ?_ _
        (try simp only [Act.put, List.setIfInBounds_toArray, List.set_cons_zero, List.set_cons_succ])
        go_wp2_with fail
        (try rw [Exit.noGoto_ret])
        have hF4 := ROS.put (w := World.drew w1) hRO.out 0 0 (.slice none 0 0) (.slice none 0 0)
        have hCf := hCa.out.drew.then (Chg_setRow (Chg.refl [g6] (World.drew w1)) (g := g6) (.inl (by simp)) #[.int .i64 0, .int .i64 0, .slice none 0 0, .slice none 0 0]) (by intro x hx; simp at hx; have := hgl.out; subst hx; right; omega)
        refine bodyPost_ret (v := .tuple #[.agg #[.int .i64 0, .int .i64 0, .slice none 0 0, .slice none 0 0], .int .i64 ((pl : Nat) : Int), .int .i64 ((8 : Nat) : Int)]) ?_ rfl (by unfold RCoEnd; exact ⟨hCf, .inr ⟨pl, 8, 0, 0, _, _, hE.out, hq0.out, rfl, rfl, rfl⟩⟩)
        exact results_cell3 rfl _ _ _ 61 _ _ _ _ rfl hF4 Try.underlying61 rfl (by kernel_rfl) (by rfl) (by rfl)
      exact AllReadyH.nil
    | some x =>
      obtain ⟨K, Lo, Hi⟩ := x
      have hfb := form_bounds hf
      rw [hf] at hkd hR1
      simp only at hkd hR1
      obtain ⟨Hi2, hHi2⟩ : ∃ Hi2, (if Hi = 1073741824 then 1000000000 else Hi) = Hi2 := ⟨_, rfl⟩
      rw [hHi2] at hkd
      have hHm : (Hi2 < m1) ↔ (Hi < m1) := by rw [← hHi2]; split <;> omega
      have hd0 : decide ((K : Int) < 0) = false := decide_eq_false (by omega)
      replace hm1 := hm1
      clear hf hHi2
      go_wp2_with fail
      refine (hkd.out _).mono ?_
      rintro e w2 ⟨rfl, rfl⟩
      clear hkd
      by_cases hlo : m1 < Lo
      · have hE : Hid (R = .error (pl, 2)) := Lib.hid (by rw [if_pos (.inl hlo)] at hR1; exact hR1.symm)
        have hq0 : Hid ((2 : Nat) ≠ 0) := Lib.hid (by decide)
        have hd : decide ((m1 : Int) < (Lo : Int)) = true := by simp; omega
        clear hR1 hfb hpl
        go_upto_region 9 with fail
        clear k0 k1 q0
        refine wp_region_held (S := fun w' => Chg [g6] w1 w') (by kernel_rfl) ?_
        (try (change wpAnyH _ _ _ _ _ _ _ _ (World.drew _)))
        have hHeld : Chg [g6] w1 (World.drew w1) := (Chg.refl _ _).drew
        refine wpAnyH_take (i := 0) (v := ?_) rfl (by kernel_rfl) (by kernel_rfl) (by kernel_rfl) (fun _ _ _ h => h) (Or.inl ⟨by kernel_rfl, ?_⟩) (by exact hHeld) ?_
        rotate_left
        · (intro w hSw; clear hSw; go_simp; try with_reducible rfl)
        change wpAnyH _ _ _ _ _ _ _ (Act.put _ (some 69) _) _
        (try simp only [Act.put, List.setIfInBounds_toArray, List.set_cons_zero, List.set_cons_succ])
        refine wpAnyH_take (i := 1) (v := ?_) rfl (by kernel_rfl) (by kernel_rfl) (by kernel_rfl) (fun _ _ _ h => h) (Or.inl ⟨by kernel_rfl, ?_⟩) (by exact hHeld) ?_
        rotate_left
        · (intro w hSw; clear hSw; go_simp; try with_reducible rfl)
        change wpAnyH _ _ _ _ _ _ _ (Act.put _ (some 70) _) _
        (try simp only [Act.put, List.setIfInBounds_toArray, List.set_cons_zero, List.set_cons_succ])
        refine wpAnyH_take (i := 2) (v := ?_) rfl (by kernel_rfl) (by kernel_rfl) (by kernel_rfl) (fun _ _ _ h => h) (Or.inl ⟨by kernel_rfl, ?_⟩) (by exact hHeld) ?_
        rotate_left
        · (intro w hSw; clear hSw; go_simp; try with_reducible rfl)
        change wpAnyH _ _ _ _ _ _ _ (Act.put _ (some 71) _) _
        (try simp only [Act.put, List.setIfInBounds_toArray, List.set_cons_zero, List.set_cons_succ])
        refine wpAnyH_take (i := 3) (v := ?_) rfl (by kernel_rfl) (by kernel_rfl) (by kernel_rfl) (fun _ _ _ h => h) (Or.inl ⟨by kernel_rfl, ?_⟩) (by exact hHeld) ?_
        rotate_left
        · (intro w hSw; have hq := yk0.out w hSw; clear hSw; (try obtain ⟨hq, hq2, hq3⟩ := hq); go_simp; try with_reducible rfl)
        change wpAnyH _ _ _ _ _ _ _ (Act.put _ (some 72) _) _
        (try simp only [Act.put, List.setIfInBounds_toArray, List.set_cons_zero, List.set_cons_succ])
        refine wpAnyH_take (i := 4) (v := ?_) rfl (by kernel_rfl) (by kernel_rfl) (by kernel_rfl) (fun _ _ _ h => h) (Or.inl ⟨by kernel_rfl, ?_⟩) (by exact hHeld) ?_
        rotate_left
        · (intro w hSw; clear hSw; go_simp; try with_reducible rfl)
        change wpAnyH _ _ _ _ _ _ _ (Act.put _ (some 73) _) _
        (try simp only [Act.put, List.setIfInBounds_toArray, List.set_cons_zero, List.set_cons_succ])
        refine wpAnyH_all (rs := [5]) (by kernel_rfl) (by simp) ?_
        refine AllReadyH.cons rfl (fun K hK => ?_) ?_
        · (refine wp_store_rop (.tmp 6) (.tmp 69) rfl g6 0 0 (.slice none 0 0) (.slice none 0 0) rfl rfl rfl rfl (by exact hRO.out) ?_; refine hK.out _ _ (Chg_setRow hHeld (.inl (by simp)) _) (fun hHeld => ?_); clear hK K)
          (try simp only [Act.put, List.setIfInBounds_toArray, List.set_cons_zero, List.set_cons_succ])
          refine wpAnyH_take (i := 6) (v := ?_) rfl (by kernel_rfl) (by kernel_rfl) (by kernel_rfl) (fun _ _ _ h => h) (Or.inl ⟨by kernel_rfl, ?_⟩) (by exact hHeld) ?_
          rotate_left
          · (intro w hSw; clear hSw; go_simp; try with_reducible rfl)
          change wpAnyH _ _ _ _ _ _ _ (Act.put _ (some 7) _) _
          (try simp only [Act.put, List.setIfInBounds_toArray, List.set_cons_zero, List.set_cons_succ])
          refine wpAnyH_take (i := 7) (v := ?_) rfl (by kernel_rfl) (by kernel_rfl) (by kernel_rfl) (fun _ _ _ h => h) (Or.inl ⟨by kernel_rfl, ?_⟩) (by exact hHeld) ?_
          rotate_left
          · (intro w hSw; clear hSw; go_simp; try with_reducible rfl)
          change wpAnyH _ _ _ _ _ _ _ (Act.put _ (some 8) _) _
          (try simp only [Act.put, List.setIfInBounds_toArray, List.set_cons_zero, List.set_cons_succ])
          refine wpAnyH_done (by kernel_rfl) ?_ _
          (try simp only [Act.put, List.setIfInBounds_toArray, List.set_cons_zero, List.set_cons_succ])
          go_wp2_with fail
          (try rw [Exit.noGoto_ret])
          have hF4 := ROS.put (w := World.drew w1) hRO.out 0 0 (.slice none 0 0) (.slice none 0 0)
          have hCf := hCa.out.drew.then (Chg_setRow (Chg.refl [g6] (World.drew w1)) (g := g6) (.inl (by simp)) #[.int .i64 0, .int .i64 0, .slice none 0 0, .slice none 0 0]) (by intro x hx; simp at hx; have := hgl.out; subst hx; right; omega)
          refine bodyPost_ret (v := .tuple #[.agg #[.int .i64 0, .int .i64 0, .slice none 0 0, .slice none 0 0], .int .i64 ((pl : Nat) : Int), .int .i64 ((2 : Nat) : Int)]) ?_ rfl (by unfold RCoEnd; exact ⟨hCf, .inr ⟨pl, 2, 0, 0, _, _, hE.out, hq0.out, rfl, rfl, rfl⟩⟩)
          exact results_cell3 rfl _ _ _ 61 _ _ _ _ rfl hF4 Try.underlying61 rfl (by kernel_rfl) (by rfl) (by rfl)
        exact AllReadyH.nil
      have hd : decide ((m1 : Int) < (Lo : Int)) = false := decide_eq_false (by omega)
      have hd' : ¬ ((m1 : Int) < (Lo : Int)) := by omega
      by_cases hhi : Hi < m1
      · have hE : Hid (R = .error (pl, 2)) := Lib.hid (by rw [if_pos (.inr hhi)] at hR1; exact hR1.symm)
        have hq0 : Hid ((2 : Nat) ≠ 0) := Lib.hid (by decide)
        have hd2 : decide ((m1 : Int) > (Hi2 : Int)) = true := decide_eq_true (by have := hHm.2 hhi; omega)
        clear hR1 hfb hpl hlo
        go_upto_region 9 with fail
        clear k0 k1 q0
        refine wp_region_held (S := fun w' => Chg [g6] w1 w') (by kernel_rfl) ?_
        (try (change wpAnyH _ _ _ _ _ _ _ _ (World.drew _)))
        have hHeld : Chg [g6] w1 (World.drew w1) := (Chg.refl _ _).drew
        refine wpAnyH_take (i := 0) (v := ?_) rfl (by kernel_rfl) (by kernel_rfl) (by kernel_rfl) (fun _ _ _ h => h) (Or.inl ⟨by kernel_rfl, ?_⟩) (by exact hHeld) ?_
        rotate_left
        · (intro w hSw; clear hSw; go_simp; try with_reducible rfl)
        change wpAnyH _ _ _ _ _ _ _ (Act.put _ (some 69) _) _
        (try simp only [Act.put, List.setIfInBounds_toArray, List.set_cons_zero, List.set_cons_succ])
        refine wpAnyH_take (i := 1) (v := ?_) rfl (by kernel_rfl) (by kernel_rfl) (by kernel_rfl) (fun _ _ _ h => h) (Or.inl ⟨by kernel_rfl, ?_⟩) (by exact hHeld) ?_
        rotate_left
        · (intro w hSw; clear hSw; go_simp; try with_reducible rfl)
        change wpAnyH _ _ _ _ _ _ _ (Act.put _ (some 70) _) _
        (try simp only [Act.put, List.setIfInBounds_toArray, List.set_cons_zero, List.set_cons_succ])
        refine wpAnyH_take (i := 2) (v := ?_) rfl (by kernel_rfl) (by kernel_rfl) (by kernel_rfl) (fun _ _ _ h => h) (Or.inl ⟨by kernel_rfl, ?_⟩) (by exact hHeld) ?_
        rotate_left
        · (intro w hSw; clear hSw; go_simp; try with_reducible rfl)
        change wpAnyH _ _ _ _ _ _ _ (Act.put _ (some 71) _) _
        (try simp only [Act.put, List.setIfInBounds_toArray, List.set_cons_zero, List.set_cons_succ])
        refine wpAnyH_take (i := 3) (v := ?_) rfl (by kernel_rfl) (by kernel_rfl) (by kernel_rfl) (fun _ _ _ h => h) (Or.inl ⟨by kernel_rfl, ?_⟩) (by exact hHeld) ?_
        rotate_left
        · (intro w hSw; have hq := yk0.out w hSw; clear hSw; (try obtain ⟨hq, hq2, hq3⟩ := hq); go_simp; try with_reducible rfl)
        change wpAnyH _ _ _ _ _ _ _ (Act.put _ (some 72) _) _
        (try simp only [Act.put, List.setIfInBounds_toArray, List.set_cons_zero, List.set_cons_succ])
        refine wpAnyH_take (i := 4) (v := ?_) rfl (by kernel_rfl) (by kernel_rfl) (by kernel_rfl) (fun _ _ _ h => h) (Or.inl ⟨by kernel_rfl, ?_⟩) (by exact hHeld) ?_
        rotate_left
        · (intro w hSw; clear hSw; go_simp; try with_reducible rfl)
        change wpAnyH _ _ _ _ _ _ _ (Act.put _ (some 73) _) _
        (try simp only [Act.put, List.setIfInBounds_toArray, List.set_cons_zero, List.set_cons_succ])
        refine wpAnyH_all (rs := [5]) (by kernel_rfl) (by simp) ?_
        refine AllReadyH.cons rfl (fun K hK => ?_) ?_
        · (refine wp_store_rop (.tmp 6) (.tmp 69) rfl g6 0 0 (.slice none 0 0) (.slice none 0 0) rfl rfl rfl rfl (by exact hRO.out) ?_; refine hK.out _ _ (Chg_setRow hHeld (.inl (by simp)) _) (fun hHeld => ?_); clear hK K)
          (try simp only [Act.put, List.setIfInBounds_toArray, List.set_cons_zero, List.set_cons_succ])
          refine wpAnyH_take (i := 6) (v := ?_) rfl (by kernel_rfl) (by kernel_rfl) (by kernel_rfl) (fun _ _ _ h => h) (Or.inl ⟨by kernel_rfl, ?_⟩) (by exact hHeld) ?_
          rotate_left
          · (intro w hSw; clear hSw; go_simp; try with_reducible rfl)
          change wpAnyH _ _ _ _ _ _ _ (Act.put _ (some 7) _) _
          (try simp only [Act.put, List.setIfInBounds_toArray, List.set_cons_zero, List.set_cons_succ])
          refine wpAnyH_take (i := 7) (v := ?_) rfl (by kernel_rfl) (by kernel_rfl) (by kernel_rfl) (fun _ _ _ h => h) (Or.inl ⟨by kernel_rfl, ?_⟩) (by exact hHeld) ?_
          rotate_left
          · (intro w hSw; clear hSw; go_simp; try with_reducible rfl)
          change wpAnyH _ _ _ _ _ _ _ (Act.put _ (some 8) _) _
          (try simp only [Act.put, List.setIfInBounds_toArray, List.set_cons_zero, List.set_cons_succ])
          refine wpAnyH_done (by kernel_rfl) ?_ _
          (try simp only [Act.put, List.setIfInBounds_toArray, List.set_cons_zero, List.set_cons_succ])
          go_wp2_with fail
          (try rw [Exit.noGoto_ret])
          have hF4 := ROS.put (w := World.drew w1) hRO.out 0 0 (.slice none 0 0) (.slice none 0 0)
          have hCf := hCa.out.drew.then (Chg_setRow (Chg.refl [g6] (World.drew w1)) (g := g6) (.inl (by simp)) #[.int .i64 0, .int .i64 0, .slice none 0 0, .slice none 0 0]) (by intro x hx; simp at hx; have := hgl.out; subst hx; right; omega)
          refine bodyPost_ret (v := .tuple #[.agg #[.int .i64 0, .int .i64 0, .slice none 0 0, .slice none 0 0], .int .i64 ((pl : Nat) : Int), .int .i64 ((2 : Nat) : Int)]) ?_ rfl (by unfold RCoEnd; exact ⟨hCf, .inr ⟨pl, 2, 0, 0, _, _, hE.out, hq0.out, rfl, rfl, rfl⟩⟩)
          exact results_cell3 rfl _ _ _ 61 _ _ _ _ rfl hF4 Try.underlying61 rfl (by kernel_rfl) (by rfl) (by rfl)
        exact AllReadyH.nil
      have hd2 : decide ((m1 : Int) > (Hi2 : Int)) = false := decide_eq_false (by have := fun h => hhi (hHm.1 h); omega)
      have hd2' : ¬ ((m1 : Int) > (Hi2 : Int)) := by have := fun h => hhi (hHm.1 h); omega
      rw [if_neg (by omega)] at hR1
      clear hlo hhi hHm
      by_cases hk8 : K = 8 ∧ body = false
      · obtain ⟨rfl, rfl⟩ := hk8
        have hE : Hid (R = .error (pl, 9)) := Lib.hid (by rw [if_pos ⟨rfl, rfl⟩] at hR1; exact hR1.symm)
        have hq0 : Hid ((9 : Nat) ≠ 0) := Lib.hid (by decide)
        clear hR1 hfb hpl
        go_upto_region 11 with fail
        clear k0 k1 q0
        refine wp_region_held (S := fun w' => Chg [g6] w1 w') (by kernel_rfl) ?_
        (try (change wpAnyH _ _ _ _ _ _ _ _ (World.drew _)))
        have hHeld : Chg [g6] w1 (World.drew w1) := (Chg.refl _ _).drew
        refine wpAnyH_take (i := 0) (v := ?_) rfl (by kernel_rfl) (by kernel_rfl) (by kernel_rfl) (fun _ _ _ h => h) (Or.inl ⟨by kernel_rfl, ?_⟩) (by exact hHeld) ?_
        rotate_left
        · (intro w hSw; clear hSw; go_simp; try with_reducible rfl)
        change wpAnyH _ _ _ _ _ _ _ (Act.put _ (some 80) _) _
        (try simp only [Act.put, List.setIfInBounds_toArray, List.set_cons_zero, List.set_cons_succ])
        refine wpAnyH_take (i := 1) (v := ?_) rfl (by kernel_rfl) (by kernel_rfl) (by kernel_rfl) (fun _ _ _ h => h) (Or.inl ⟨by kernel_rfl, ?_⟩) (by exact hHeld) ?_
        rotate_left
        · (intro w hSw; clear hSw; go_simp; try with_reducible rfl)
        change wpAnyH _ _ _ _ _ _ _ (Act.put _ (some 81) _) _
        (try simp only [Act.put, List.setIfInBounds_toArray, List.set_cons_zero, List.set_cons_succ])
        refine wpAnyH_take (i := 2) (v := ?_) rfl (by kernel_rfl) (by kernel_rfl) (by kernel_rfl) (fun _ _ _ h => h) (Or.inl ⟨by kernel_rfl, ?_⟩) (by exact hHeld) ?_
        rotate_left
        · (intro w hSw; clear hSw; go_simp; try with_reducible rfl)
        change wpAnyH _ _ _ _ _ _ _ (Act.put _ (some 82) _) _
        (try simp only [Act.put, List.setIfInBounds_toArray, List.set_cons_zero, List.set_cons_succ])
        refine wpAnyH_take (i := 3) (v := ?_) rfl (by kernel_rfl) (by kernel_rfl) (by kernel_rfl) (fun _ _ _ h => h) (Or.inl ⟨by kernel_rfl, ?_⟩) (by exact hHeld) ?_
        rotate_left
        · (intro w hSw; have hq := yk0.out w hSw; clear hSw; (try obtain ⟨hq, hq2, hq3⟩ := hq); go_simp; try with_reducible rfl)
        change wpAnyH _ _ _ _ _ _ _ (Act.put _ (some 83) _) _
        (try simp only [Act.put, List.setIfInBounds_toArray, List.set_cons_zero, List.set_cons_succ])
        refine wpAnyH_take (i := 4) (v := ?_) rfl (by kernel_rfl) (by kernel_rfl) (by kernel_rfl) (fun _ _ _ h => h) (Or.inl ⟨by kernel_rfl, ?_⟩) (by exact hHeld) ?_
        rotate_left
        · (intro w hSw; clear hSw; go_simp; try with_reducible rfl)
        change wpAnyH _ _ _ _ _ _ _ (Act.put _ (some 84) _) _
        (try simp only [Act.put, List.setIfInBounds_toArray, List.set_cons_zero, List.set_cons_succ])
        refine wpAnyH_all (rs := [5]) (by kernel_rfl) (by simp) ?_
        refine AllReadyH.cons rfl (fun K hK => ?_) ?_
        · (refine wp_store_rop (.tmp 6) (.tmp 80) rfl g6 0 0 (.slice none 0 0) (.slice none 0 0) rfl rfl rfl rfl (by exact hRO.out) ?_; refine hK.out _ _ (Chg_setRow hHeld (.inl (by simp)) _) (fun hHeld => ?_); clear hK K)
          (try simp only [Act.put, List.setIfInBounds_toArray, List.set_cons_zero, List.set_cons_succ])
          refine wpAnyH_take (i := 6) (v := ?_) rfl (by kernel_rfl) (by kernel_rfl) (by kernel_rfl) (fun _ _ _ h => h) (Or.inl ⟨by kernel_rfl, ?_⟩) (by exact hHeld) ?_
          rotate_left
          · (intro w hSw; clear hSw; go_simp; try with_reducible rfl)
          change wpAnyH _ _ _ _ _ _ _ (Act.put _ (some 7) _) _
          (try simp only [Act.put, List.setIfInBounds_toArray, List.set_cons_zero, List.set_cons_succ])
          refine wpAnyH_take (i := 7) (v := ?_) rfl (by kernel_rfl) (by kernel_rfl) (by kernel_rfl) (fun _ _ _ h => h) (Or.inl ⟨by kernel_rfl, ?_⟩) (by exact hHeld) ?_
          rotate_left
          · (intro w hSw; clear hSw; go_simp; try with_reducible rfl)
          change wpAnyH _ _ _ _ _ _ _ (Act.put _ (some 8) _) _
          (try simp only [Act.put, List.setIfInBounds_toArray, List.set_cons_zero, List.set_cons_succ])
          refine wpAnyH_done (by kernel_rfl) ?_ _
          (try simp only [Act.put, List.setIfInBounds_toArray, List.set_cons_zero, List.set_cons_succ])
          go_wp2_with fail
          (try rw [Exit.noGoto_ret])
          have hF4 := ROS.put (w := World.drew w1) hRO.out 0 0 (.slice none 0 0) (.slice none 0 0)
          have hCf := hCa.out.drew.then (Chg_setRow (Chg.refl [g6] (World.drew w1)) (g := g6) (.inl (by simp)) #[.int .i64 0, .int .i64 0, .slice none 0 0, .slice none 0 0]) (by intro x hx; simp at hx; have := hgl.out; subst hx; right; omega)
          refine bodyPost_ret (v := .tuple #[.agg #[.int .i64 0, .int .i64 0, .slice none 0 0, .slice none 0 0], .int .i64 ((pl : Nat) : Int), .int .i64 ((9 : Nat) : Int)]) ?_ rfl (by unfold RCoEnd; exact ⟨hCf, .inr ⟨pl, 9, 0, 0, _, _, hE.out, hq0.out, rfl, rfl, rfl⟩⟩)
          exact results_cell3 rfl _ _ _ 61 _ _ _ _ rfl hF4 Try.underlying61 rfl (by kernel_rfl) (by rfl) (by rfl)
        exact AllReadyH.nil
      rw [if_neg hk8] at hR1
      go_upto_region 10 with fail
      go_cut [79] (fun v79 wx => v79 = .bool false ∧ w1 = wx)
      case first =>
        by_cases h8 : K = 8
        · obtain rfl : body = true := by
            cases body
            · exact absurd ⟨h8, rfl⟩ hk8
            · rfl
          have d8 : ((K : Int) == 8) = true := by rw [h8]; rfl
          go_wp2_with fail
          go_meet
          exact ⟨rfl, rfl⟩
        · have d8 : ((K : Int) == 8) = false := by rw [beq_eq_false_iff_ne]; omega
          go_wp2_with fail
          go_meet
          exact ⟨by first | rfl | simp, rfl⟩
      case rest =>
      obtain ⟨rfl, rfl⟩ := hcut
      clear hd hd' hd2 hd2' hd0 q0 yk0 yk1 yq0 hk8
      have hA5 := (Chg.refl [] w1).alloc (.cells #[.int .i64 K, .int .i64 pl, .slice none 0 0, .slice none 0 0] 61)
      have hP5 := Lib.hid (show ROS (w1.alloc (.cells #[.int .i64 K, .int .i64 pl, .slice none 0 0, .slice none 0 0] 61)) w1.heap.size K pl (.slice none 0 0) (.slice none 0 0) from blk_new _ _)
      have hRO5 := Lib.hid (hRO.out.chg hA5 (by simp))
      have hW5 := Lib.hid (hW.out.chg hA5 (fun _ _ _ => by simp))
      have hC5 := Lib.hid (hCa.out.trans hA5)
      have kk1 := Lib.hid (hA5.cell k1 (by simp))
      have hs5 : Hid (w1.heap.size + 1 = (w1.alloc (.cells #[.int .i64 K, .int .i64 pl, .slice none 0 0, .slice none 0 0] 61)).heap.size) := Lib.hid (Array.size_push ..).symm
      obtain ⟨gp, hgp⟩ : ∃ gp, w1.heap.size = gp := ⟨_, rfl⟩
      rw [hgp] at hP5 hs5
      have hgp6 := Lib.hid (show g6 < gp by have := hsz1.out; omega)
      clear hA5 hRO hW hCa
      go_upto_block 0 with (fail)
      go_wp2
      (try rw [hgp])
      generalize w1.alloc _ = w5 at hP5 hRO5 hW5 hC5 kk1 hs5 ⊢
      clear k0 k1
      go_loopg [16, 17] m1 (fun gk v16 v17 wr => ∃ (j : Nat) (A' : Option Addr) (c' : Nat), v16 = .slice A' j c' ∧ v17 = .int .i64 ((j + 1 : Nat) : Int) ∧ j ≤ m1 ∧ gk = m1 - j ∧ Hid (WR wr Bw w5.heap.size A' j c' ((args.take j).map (shiftW base))) ∧ Hid (Chg [] w5 wr))
      case atStart => exact ⟨0, none, 0, rfl, rfl, by omega, rfl, Lib.hid ⟨rfl, [], World.ownsRow_nil _ _ _ _, rfl⟩, Lib.hid (Chg.refl _ _)⟩
      case round =>
        obtain ⟨j, A', c', rfl, rfl, hj, rfl, hWR, hCr⟩ := hrel
        have k1 := hCr.out.cell kk1.out (by simp)
        by_cases hjt : j < m1
        · obtain ⟨wd, hwk⟩ : ∃ wd, args[j]? = some wd := ⟨_, List.getElem?_eq_getElem (by have := hm1.out; omega)⟩
          obtain ⟨b1, o1, Ap1, cp1, e1, p0, p1, p2, hpp, hbk1⟩ := ws_cell2 (hW5.out.chg hCr.out (fun _ _ _ => by simp)) (k := j + 1) (wd := wd) (by simpa using hwk)
          cases e1
          have hb9 := (hwd.out (shiftW base wd) (List.mem_of_getElem? (i := j + 1) (by simp [hwk]))).1
          simp only [shiftW] at hb9
          obtain ⟨h0, ys, hO, hY⟩ := hWR.out
          have hmv := Lib.hid (fun W => moved_any W wd.at_ wd.kind Ap1 wd.parts.length cp1 base (by omega))
          obtain ⟨np1, hnp1⟩ : ∃ np1, wd.parts.length = np1 := ⟨_, rfl⟩
          rw [hnp1] at hmv p2
          have hsz5 := hCr.out.size
          have hle : (j : Int) + 1 ≤ (m1 : Int) := by omega
          have hlt2 : (j : Int) + 1 < (n : Int) := by have := hnw.out; omega
          have hlt3 : j + 1 < n := by have := hnw.out; omega
          replace hO := Lib.hid hO
          replace hY := Lib.hid hY
          replace hpp := Lib.hid hpp
          replace hbk1 := Lib.hid hbk1
          replace hnp1 := Lib.hid hnp1
          replace hsz5 := Lib.hid hsz5
          clear h0 hWR
          go_wp2_with fail
          refine (hmv.out _).mono ?_
          rintro e w3 ⟨rfl, hC3⟩
          obtain ⟨b5, o5, Ap5, cp5, e5, -, -, p5, hp5, hb5⟩ := ws_cell2 hW5.out (k := j + 1) (wd := wd) (by simpa using hwk)
          obtain ⟨rfl, rfl⟩ : Ap5 = Ap1 ∧ cp5 = cp1 := by
            cases e5
            have h9 := hCr.out.cell p5 (by simp)
            rw [hnp1.out] at h9
            rw [p2] at h9
            simp at h9
            exact ⟨h9.1.symm, h9.2.symm⟩
          have hO3 := Lib.hid (own_chg hO.out hC3 (by simp))
          have hY3 := Lib.hid (wordsC.chg hC3 (fun _ _ _ => by simp) hY.out)
          have hp3 := Lib.hid (hpp.out.chg hC3 (fun _ _ _ => by simp))
          have hb3 := Lib.hid (show Blk w3 (fun q => Bw q ∧ q < w5.heap.size) (.slice Ap5 wd.parts.length cp5) wd.parts.length from fun q h0 hq => ⟨hb5 q h0 hq, Nat.lt_of_lt_of_le (hb5 q h0 hq).2 (hCr.out.trans hC3).size⟩)
          have hsz3 := Lib.hid (show w5.heap.size ≤ w3.heap.size from (hCr.out.trans hC3).size)
          have hCr3 := Lib.hid (hCr.out.trans hC3)
          obtain ⟨zz, hzz⟩ : ∃ zz, wd.at_ + base = zz := ⟨_, rfl⟩
          rw [hzz]
          replace hzz := Lib.hid hzz
          have hjl : j = ((args.take j).map (shiftW base)).length := by rw [List.length_map, List.length_take]; have := hm1.out; omega
          replace hjl := Lib.hid hjl
          have htk := Lib.hid (show (args.take (j + 1)).map (shiftW base) = (args.take j).map (shiftW base) ++ [shiftW base wd] by rw [take_get hwk, List.map_append]; rfl)
          clear hC3 hmv hO hY hpp hbk1 p0 p1 p2 e5 hp5 hb5 k1 hwk hCr p5 hle hlt2 hlt3 hb9
          go_wp2_with (at_builtin; refine wpList_append_sl rfl (.tmp 96) (.tmp 104) 32 rfl w5.heap.size 38 (.agg #[.int .i64 0, .int .i64 0, .slice none 0 0]) 3 40 Try.underlying32 Try.info_word3 rfl (by decide) _ j ys rfl (hO3.out.alloc _) _ 1 [.int .i64 zz, .int .i64 wd.kind, .slice Ap5 np1 cp5] rfl (sl_wide_new w3 _ 38 3 rfl) (by intro u hu; simp at hu; rcases hu with rfl | rfl | rfl <;> rfl) (j + 1) rfl (by omega) (by decide) (by have h1 := hsz3.out; have h2 : (w3.alloc (.cells #[.int .i64 zz, .int .i64 wd.kind, .slice Ap5 np1 cp5] 38)).heap.size = w3.heap.size + 1 := Array.size_push ..; omega) ?_)
          intro A'' c'' w4 hO' hCh hat
          have hCh2 : Chg (Value.slice A' j c').ownBlock.toList w3 w4 := ((Chg.refl _ w3).alloc _).trans hCh
          have hWR' := Lib.hid (show WR w4 Bw w5.heap.size A'' (j + 1) c'' ((args.take (j + 1)).map (shiftW base)) by
            rw [htk.out]
            exact WR.snoc (wd := shiftW base wd) (Ap := Ap5) (cp := cp5) hjl.out hO3.out hY3.out hp3.out hb3.out (by show w4.ownsRow _ _ _ _ _ (ys ++ [.int .i64 ((wd.at_ + base : Nat) : Int), .int .i64 wd.kind, .slice Ap5 wd.parts.length cp5]); rw [hzz.out, hnp1.out]; exact hO') hCh2)
          have hCr4 := Lib.hid (hCr3.out.then hCh2 (fun q hq => .inr (by have := (hO3.out.lt q (by simpa using hq)).1; omega)))
          clear hO' hCh hat hCh2 hO3 hY3 hp3 hb3 hjl htk hCr3
          go_wp2_with fail
          go_roundg (m1 - (j + 1))
          case measure => omega
          case rel => exact ⟨j + 1, A'', c'', rfl, by go_num, by omega, rfl, hWR', hCr4⟩
        · obtain rfl : j = m1 := by omega
          have hta : args.take j = args := List.take_of_length_le (by have := hm1.out; omega)
          have hWR2 := hWR.out
          rw [hta] at hWR2
          replace hWR2 := Lib.hid hWR2
          have hnle : ¬ ((j : Int) + 1 ≤ (j : Int)) := by omega
          have hP := Lib.hid (hP5.out.chg hCr.out (by simp))
          have hROr := Lib.hid (hRO5.out.chg hCr.out (by simp))
          clear hWR hta k1
          by_cases hk3 : K = 3
          · have hd3 : ((K : Int) != 3) = false := by rw [hk3]; rfl
            obtain ⟨ar, har⟩ : ∃ ar, args.map (shiftW base) = ar := ⟨_, rfl⟩
            rw [har] at hR1 hWR2
            have hR3 : (match argsA ar with | .error b => .error b | .ok ws => expA pl (armsGo rec ws.length ws [])) = R := by
              rw [if_neg (fun h => h hk3)] at hR1
              rw [← hR1]
              cases argsA ar with
              | error b => rfl
              | ok ws =>
                simp only
                cases armsGo rec ws.length ws [] with
                | error b => rfl
                | ok l => cases l <;> rfl
            have harl : ar.length = j := by rw [← har, List.length_map]; exact hm1.out
            have hwdA : Wd L M ar := fun x hx => hwd.out x (by rw [List.map_cons, har]; simp [hx])
            have honA : OneW ar := fun x hx hk => by
              rw [← har] at hx
              obtain ⟨y, hy, rfl⟩ := List.mem_map.1 hx
              exact hone.out y (by simp [hy]) hk
            obtain ⟨B3, hB3⟩ : ∃ B3 : Nat → Prop, (fun q => B q ∧ (q < w.heap.size ∨ w5.heap.size ≤ q)) = B3 := ⟨_, rfl⟩
            have hB3n : ∀ q, w5.heap.size ≤ q → B3 q := fun q hq => by rw [← hB3]; exact ⟨hB.out q (by have := hC5.out.size; omega), .inr hq⟩
            have hWA : WsV wr B3 A' j c' ar := WR.wsv' hWR2.out (fun q hq _ => by rw [← hBw.out] at hq; rw [← hB3]; exact ⟨hq.1, .inl hq.2⟩) hB3n
            obtain ⟨z2, hz2⟩ : ∃ z, (match ar with | [a] => decide (a.kind = 2) | _ => false) = z := ⟨_, rfl⟩
            replace hR3 := Lib.hid hR3
            replace harl := Lib.hid harl
            replace hwdA := Lib.hid hwdA
            replace honA := Lib.hid honA
            replace hB3 := Lib.hid hB3
            replace hB3n := Lib.hid hB3n
            replace hWA := Lib.hid hWA
            replace hz2 := Lib.hid hz2
            have hj16 : j ≤ 16777216 := hn16'
            replace hk3 := Lib.hid hk3
            clear hR1 har hWR2
            go_upto_region 21 with fail
            go_cut [119] (fun v119 wx => v119 = .bool z2 ∧ wr = wx)
            case first =>
              match ar, harl, hz2, hWA with
              | [], harl, hz2, hWA =>
                obtain rfl : j = 0 := harl.out.symm
                obtain rfl : z2 = false := hz2.out.symm
                go_wp2_with fail
                go_meet
                exact ⟨rfl, rfl⟩
              | a :: a2 :: r, harl, hz2, hWA =>
                have hmm : ((j : Int) == 1) = false := by have := harl.out; simp only [List.length_cons] at this; rw [beq_eq_false_iff_ne]; omega
                obtain rfl : z2 = false := hz2.out.symm
                go_wp2_with fail
                go_meet
                exact ⟨rfl, rfl⟩
              | [a], harl, hz2, hWA =>
                obtain rfl : j = 1 := harl.out.symm
                obtain ⟨b1, o1, Ap1, cp1, rfl, p0, p1, p2, hpp, hbk1⟩ := ws_cell2 hWA.out (k := 0) rfl
                simp only [Nat.zero_mul, Nat.add_zero] at p0 p1 p2
                have hzz : ((a.kind : Int) == 2) = z2 := by
                  rw [← hz2.out]
                  simp only
                  by_cases h : a.kind = 2
                  · rw [h]; rfl
                  · rw [decide_eq_false h, beq_eq_false_iff_ne]; omega
                clear hpp hbk1 p0 p2
                go_wp2_with fail
                go_meet
                exact ⟨rfl, rfl⟩
            case rest =>
            obtain ⟨rfl, rfl⟩ := hcut
            clear hnle hd3
            go_upto_if 119 with fail
            go_cut [16] (fun v16 wx => ∃ (ws : List Word) (A2 : Option Addr) (c2 : Nat), v16 = .slice A2 (List.length ws) c2 ∧ Hid (argsA ar = .ok ws) ∧ Hid (WsV wx B3 A2 (List.length ws) c2 ws) ∧ Hid (Chg [] wr wx))
            case first =>
              cases z2 with
              | false =>
                have hA : Hid (argsA ar = .ok ar) := Lib.hid (by
                  unfold argsA
                  match ar, hz2 with
                  | [], _ => rfl
                  | a :: a2 :: r, _ => rfl
                  | [a], hz2 =>
                    have h : ¬ a.kind = 2 := by have := hz2.out; simpa using this
                    simp only; rw [if_neg h])
                go_wp2_with fail
                go_meet
                exact ⟨ar, A', c', by rw [harl.out], hA, by rw [harl.out]; exact hWA, Lib.hid (Chg.refl _ _)⟩
              | true =>
                obtain ⟨a, rfl⟩ : ∃ a, ar = [a] := by
                  match ar, hz2 with
                  | [], h => exact absurd h.out (by simp)
                  | a :: b :: r, h => exact absurd h.out (by simp)
                  | [a], _ => exact ⟨a, rfl⟩
                have hk2 : a.kind = 2 := by have := hz2.out; simpa using this
                obtain rfl : j = 1 := harl.out.symm
                obtain ⟨hwa, hwb⟩ := hwdA.out a (by simp)
                obtain ⟨hwb1, hwb2⟩ := hwb hk2
                obtain ⟨b1, o1, Ap1, cp1, rfl, p0, p1, p2, hpp, hbk1⟩ := ws_cell2 hWA.out (k := 0) rfl
                simp only [Nat.zero_mul, Nat.add_zero] at p0 p1 p2
                have hin := inner_any wr a Ap1 cp1 hpp (honA.out a (by simp) hk2)
                have hps := Lib.hid (fun W => Rt.parse_ref W (openT a) (by omega))
                obtain ⟨tx, htx⟩ : ∃ tx, openT a = tx := ⟨_, rfl⟩
                obtain ⟨fr, hfr⟩ : ∃ fr, a.at_ + 1 = fr := ⟨_, rfl⟩
                have hAe : argsA [a] = match parse tx with | .error e => .error (if e.2 = 0 then 0 else fr + e.1, e.2) | .ok cs => .ok (Wf fr cs) := by
                  unfold argsA
                  simp only
                  rw [if_pos hk2, htx, hfr]
                  unfold parseAt
                  cases parse tx with
                  | error e => rfl
                  | ok cs => simp only [Wf_args]
                rw [htx] at hin hps hwb1 hwb2
                obtain ⟨Z2, hZ2⟩ : ∃ Z, bstr tx = Z := ⟨_, rfl⟩
                rw [hZ2] at hin hps
                unfold wordV at hin
                obtain ⟨np1, hnp1⟩ : ∃ np1, a.parts.length = np1 := ⟨_, rfl⟩
                rw [hnp1] at hin p2
                have hwf : IntKind.i64.wrap ((a.at_ : Int) + 1) = (fr : Int) := by rw [IntWalk.i64_in _ (by omega)]; omega
                have hfrM : fr + tx.length ≤ M := by omega
                have htl : tx.length ≤ 50000 := by omega
                replace hin := Lib.hid hin
                replace hAe := Lib.hid hAe
                clear hpp hbk1 hZ2 htx hfr hnp1 hwa hwb hwb1 hwb2 hk2
                go_wp2_with fail
                refine (hin.out).mono ?_
                rintro e wp ⟨rfl, hCp⟩
                clear hin p0 p1 p2
                go_wp2_with fail
                refine (hps.out _).mono ?_
                rintro e w8 ⟨hC8, h8 | h8⟩
                rotate_left
                · obtain ⟨p, q, rfl, hcs, hq0⟩ := h8
                  have hple := parse_err hcs
                  simp only at hple
                  obtain ⟨pp, hpp⟩ : ∃ pp, fr + p = pp := ⟨_, rfl⟩
                  have hwp : IntKind.i64.wrap ((fr : Int) + (p : Int)) = (pp : Int) := by rw [IntWalk.i64_in _ (by omega)]; omega
                  have hE : R = .error (pp, q) := by
                    have h1 := hAe.out
                    rw [hcs] at h1
                    simp only at h1
                    rw [if_neg hq0, hpp] at h1
                    have h2 := hR3.out
                    rw [h1] at h2
                    exact h2.symm
                  have hqn : ((q : Int) != 0) = true := by simp; omega
                  have hR8 := Lib.hid (hROr.out.chg (hCp.trans hC8) (by simp))
                  have hC9 := Lib.hid ((hC5.out.trans hCr.out).trans (hCp.trans hC8))
                  replace hE := Lib.hid hE
                  replace hq0 := Lib.hid hq0
                  clear hps hAe hR3 hcs hpp hple hWA hP hROr
                  go_wp2_with (refine wpList_store_rop rfl (.tmp 6) (.tmp 136) rfl g6 0 0 (.slice none 0 0) (.slice none 0 0) rfl rfl rfl rfl hR8.out ?_)
                  (try rw [Exit.noGoto_ret])
                  have hF := ROS.put hR8.out 0 0 (.slice none 0 0) (.slice none 0 0)
                  have hCf := hC9.out.then (Chg_setRow (Chg.refl [g6] w8) (g := g6) (.inl (by simp)) #[.int .i64 0, .int .i64 0, .slice none 0 0, .slice none 0 0]) (by intro x hx; simp at hx; have := hgl.out; subst hx; right; omega)
                  refine bodyPost_ret (v := .tuple #[.agg #[.int .i64 0, .int .i64 0, .slice none 0 0, .slice none 0 0], .int .i64 pp, .int .i64 q]) ?_ rfl (by unfold RCoEnd; exact ⟨hCf, .inr ⟨pp, q, 0, 0, _, _, hE.out, hq0.out, rfl, rfl, rfl⟩⟩)
                  exact results_cell3 rfl _ _ _ 61 _ _ _ _ rfl hF Try.underlying61 rfl (by kernel_rfl) (by rfl) (by rfl)
                · obtain ⟨A8, n8, c8, xs, cs, rfl, hcs, hn8, hS8, hX8, -, -⟩ := h8
                  have hAk : argsA [a] = .ok (Wf fr cs) := by have h1 := hAe.out; rw [hcs] at h1; exact h1
                  have hrow := parse_row hcs
                  have htot : (Wf fr cs).length ≤ 16777216 := by rw [Wf_sum]; have := hrow.2.2.1; omega
                  have hwpl : ∀ cm ∈ cs, ∀ wd ∈ cm.words, wd.at_ + fr ≤ 1099511627776 := fun cm hc wd hw => by
                    have := ((hrow.1 cm hc).2.2 wd hw).1
                    omega
                  have hn89 : n8 ≤ 9223372036854775807 := by
                    obtain ⟨A0, c0, e, j0, j1, j2, -⟩ := hS8
                    simp only [Value.slice.injEq] at e
                    obtain ⟨-, -, rfl⟩ := e
                    unfold maxLen at j2; omega
                  have hC88 := Lib.hid (hCp.trans hC8)
                  obtain ⟨Bx, hBx⟩ : ∃ Bx : Nat → Prop, (fun q => wp.heap.size ≤ q ∧ q < w8.heap.size) = Bx := ⟨_, rfl⟩
                  have hs58 := Lib.hid (show w5.heap.size ≤ wp.heap.size from (hCr.out.trans hCp).size)
                  have hs88 := Lib.hid (show wp.heap.size ≤ w8.heap.size from hC8.size)
                  replace hS8 := Lib.hid hS8
                  replace hX8 := Lib.hid hX8
                  replace hAk := Lib.hid hAk
                  replace hn8 := Lib.hid hn8
                  replace hwpl := Lib.hid hwpl
                  replace htot := Lib.hid htot
                  replace hBx := Lib.hid hBx
                  clear hps hAe hrow hcs hWA hP hROr hCp hC8 hwf hfrM htl
                  go_wp2_with fail
                  go_loopg [16, 22] n8 (fun gk v16 v22 wr => ∃ (i : Nat) (A' : Option Addr) (c' m : Nat), v16 = .slice A' m c' ∧ v22 = .int .i64 i ∧ i ≤ n8 ∧ gk = n8 - i ∧ Hid (m = (Wf fr (cs.take i)).length) ∧ Hid (WR wr Bx w8.heap.size A' m c' (Wf fr (cs.take i))) ∧ Hid (Chg [] w8 wr))
                  case atStart => exact ⟨0, none, 0, 0, rfl, rfl, by omega, rfl, Lib.hid rfl, Lib.hid ⟨rfl, [], World.ownsRow_nil _ _ _ _, rfl⟩, Lib.hid (Chg.refl _ _)⟩
                  case round =>
                    obtain ⟨i, A', c', m, rfl, rfl, hi, rfl, hm, hWR, hC9⟩ := hrel
                    by_cases hlt : i < n8
                    · obtain ⟨cm, hcm⟩ : ∃ cm, cs[i]? = some cm := ⟨_, List.getElem?_eq_getElem (by have := hn8.out; omega)⟩
                      obtain ⟨b9, o9, A9, c9, rfl, hcell, hcl, hwords⟩ := cm_cell hS8.out hX8.out hcm
                      have hlen := Wf_len (fr := fr) hcm
                      have hsu := Wf_succ (fr := fr) hcm
                      have hmem := List.mem_of_getElem? hcm
                      obtain ⟨nw, hnw9⟩ : ∃ nw, cm.words.length = nw := ⟨_, rfl⟩
                      rw [hnw9] at hcell hcl hlen
                      replace hcell := Lib.hid hcell
                      replace hwords := Lib.hid hwords
                      replace hlen := Lib.hid hlen
                      replace hsu := Lib.hid hsu
                      replace hmem := Lib.hid hmem
                      replace hnw9 := Lib.hid hnw9
                      have hWR0 : Hid (WR wr Bx w8.heap.size A' m c' (Wf fr (cs.take i) ++ (cm.words.take 0).map (shiftW fr))) := Lib.hid (by simpa using hWR.out)
                      clear hcm hWR
                      go_upto_block 4 with (fail)
                      go_wp2
                      go_loopg [16, 23] nw (fun gk v16 v23 wr => ∃ (k : Nat) (A' : Option Addr) (c' m' : Nat), v16 = .slice A' m' c' ∧ v23 = .int .i64 k ∧ k ≤ nw ∧ gk = nw - k ∧ Hid (m' = m + k) ∧ Hid (WR wr Bx w8.heap.size A' m' c' (Wf fr (cs.take i) ++ (cm.words.take k).map (shiftW fr))) ∧ Hid (Chg [] w8 wr))
                      case atStart => exact ⟨0, A', c', m, rfl, rfl, by omega, rfl, Lib.hid rfl, hWR0, hC9⟩
                      case round =>
                        clear hWR0
                        obtain ⟨k, A', c', m', rfl, rfl, hk, rfl, hm', hWR, hC9⟩ := hrel
                        have hcell2 := hC9.out.cell hcell.out (by simp)
                        by_cases hkt : k < nw
                        · obtain ⟨wd, hwd9⟩ : ∃ wd, cm.words[k]? = some wd := ⟨_, List.getElem?_eq_getElem (by have := hnw9.out; omega)⟩
                          obtain ⟨b7, o7, Ap7, cp7, rfl, u0, u1, u2, hp7, hb7⟩ := hwords.out k wd hwd9
                          replace u0 := hC9.out.cell u0 (by simp)
                          replace u1 := hC9.out.cell u1 (by simp)
                          replace u2 := hC9.out.cell u2 (by simp)
                          have hb9 := hwpl.out cm hmem.out wd (List.mem_of_getElem? hwd9)
                          obtain ⟨h0, ys, hO, hY⟩ := hWR.out
                          have hmv := Lib.hid (fun W => moved_any W wd.at_ wd.kind Ap7 wd.parts.length cp7 fr hb9)
                          obtain ⟨np7, hnp7⟩ : ∃ np7, wd.parts.length = np7 := ⟨_, rfl⟩
                          rw [hnp7] at hmv u2
                          have htk := Lib.hid (show Wf fr (cs.take i) ++ (cm.words.take (k + 1)).map (shiftW fr) = (Wf fr (cs.take i) ++ (cm.words.take k).map (shiftW fr)) ++ [shiftW fr wd] by rw [take_get hwd9, List.map_append, List.append_assoc]; rfl)
                          have hmb : m' + 1 ≤ 16777216 := by have h1 := hm'.out; have h2 := hlen.out; have h3 := hm.out; have h4 := htot.out; omega
                          replace hO := Lib.hid hO
                          replace hY := Lib.hid hY
                          replace hp7 := Lib.hid (hp7.chg hC9.out (fun _ _ _ => by simp))
                          have hb7' := Lib.hid (show Blk wr (fun q => Bx q ∧ q < w8.heap.size) (.slice Ap7 wd.parts.length cp7) wd.parts.length from fun q h0 hq => by
                            have h9 := hb7 q h0 hq
                            have h8 := hC9.out.size
                            rw [← hBx.out]
                            exact ⟨⟨h9.1, h9.2⟩, by omega⟩)
                          replace hnp7 := Lib.hid hnp7
                          replace h0 := Lib.hid h0
                          clear hb7 hwd9 hb9 hWR
                          go_wp2_with fail
                          refine (hmv.out _).mono ?_
                          rintro e w3 ⟨rfl, hC3⟩
                          have hO3 := Lib.hid (own_chg hO.out hC3 (by simp))
                          have hY3 := Lib.hid (wordsC.chg hC3 (fun _ _ _ => by simp) hY.out)
                          have hp3 := Lib.hid (hp7.out.chg hC3 (fun _ _ _ => by simp))
                          have hb3 := Lib.hid (hb7'.out.chg hC3)
                          have hsz3 := Lib.hid (show w8.heap.size ≤ w3.heap.size from (hC9.out.trans hC3).size)
                          have hCr3 := Lib.hid (hC9.out.trans hC3)
                          obtain ⟨zz, hzz⟩ : ∃ zz, wd.at_ + fr = zz := ⟨_, rfl⟩
                          rw [hzz]
                          replace hzz := Lib.hid hzz
                          clear hC3 hmv hO hY hp7 hb7' u0 u1 u2 hcell2
                          go_wp2_with (at_builtin; refine wpList_append_sl rfl (.tmp 157) (.tmp 168) 32 rfl w8.heap.size 38 (.agg #[.int .i64 0, .int .i64 0, .slice none 0 0]) 3 40 Try.underlying32 Try.info_word3 rfl (by decide) _ m' ys rfl (hO3.out.alloc _) _ 1 [.int .i64 zz, .int .i64 wd.kind, .slice Ap7 np7 cp7] rfl (sl_wide_new w3 _ 38 3 rfl) (by intro u hu; simp at hu; rcases hu with rfl | rfl | rfl <;> rfl) (m' + 1) rfl (by omega) (by decide) (by have h1 := hsz3.out; have h2 : (w3.alloc (.cells #[.int .i64 zz, .int .i64 wd.kind, .slice Ap7 np7 cp7] 38)).heap.size = w3.heap.size + 1 := Array.size_push ..; omega) ?_)
                          intro A'' c'' w4 hO' hCh hat
                          have hCh2 : Chg (Value.slice A' m' c').ownBlock.toList w3 w4 := ((Chg.refl _ w3).alloc _).trans hCh
                          have hWR' := Lib.hid (show WR w4 Bx w8.heap.size A'' (m' + 1) c'' (Wf fr (cs.take i) ++ (cm.words.take (k + 1)).map (shiftW fr)) by
                            rw [htk.out]
                            exact WR.snoc (wd := shiftW fr wd) (Ap := Ap7) (cp := cp7) h0.out hO3.out hY3.out hp3.out hb3.out (by show w4.ownsRow _ _ _ _ _ (ys ++ [.int .i64 ((wd.at_ + fr : Nat) : Int), .int .i64 wd.kind, .slice Ap7 wd.parts.length cp7]); rw [hzz.out, hnp7.out]; exact hO') hCh2)
                          have hC94 := Lib.hid (hCr3.out.then hCh2 (fun q hq => .inr (by have := (hO3.out.lt q (by simpa using hq)).1; omega)))
                          have hm4 : Hid (m' + 1 = m + (k + 1)) := Lib.hid (by have := hm'.out; omega)
                          clear hO' hCh hat hCh2 hO3 hY3 hp3 hb3 htk hCr3 h0
                          go_wp2_with fail
                          go_roundg (nw - (k + 1))
                          case measure => omega
                          case rel => exact ⟨k + 1, A'', c'', m' + 1, rfl, by go_num, by omega, rfl, hm4, hWR', hC94⟩
                        · obtain rfl : k = nw := by omega
                          have hfl : Hid (Wf fr (cs.take (i + 1)) = Wf fr (cs.take i) ++ (cm.words.take k).map (shiftW fr)) := Lib.hid (by have e9 : cm.words.take k = cm.words := List.take_of_length_le (by have := hnw9.out; omega); rw [hsu.out, e9])
                          have hWR3 := Lib.hid (show WR wr Bx w8.heap.size A' m' c' (Wf fr (cs.take (i + 1))) by rw [hfl.out]; exact hWR.out)
                          have hm3 := Lib.hid (show m' = (Wf fr (cs.take (i + 1))).length from hWR3.out.1)
                          clear hWR hfl
                          go_wp2_with fail
                          go_roundg (n8 - (i + 1))
                          case measure => omega
                          case rel => exact ⟨i + 1, A', c', m', rfl, by go_num, by omega, rfl, hm3, hWR3, hC9⟩
                    · obtain rfl : i = n8 := by omega
                      have hta : cs.take i = cs := List.take_of_length_le (by have := hn8.out; omega)
                      have hWF := hWR.out
                      rw [hta] at hWF
                      have hWs := Lib.hid (WR.wsv' hWF (B3 := B3) (fun q hq _ => by rw [← hBx.out] at hq; exact hB3n.out q (by have := hs58.out; have := hq.1; omega)) (fun q hq => hB3n.out q (by have := hs58.out; have := hs88.out; omega)))
                      have hml := hWF.1
                      replace hml := Lib.hid hml
                      clear hWF hWR hta
                      go_wp2_with fail
                      go_meet
                      exact ⟨Wf fr cs, A', c', by rw [← hml.out], hAk, by rw [← hml.out]; exact hWs, Lib.hid (hC88.out.trans hC9.out)⟩
            case rest =>
            obtain ⟨ws, A2, c2, rfl, hA, hWs, hC6⟩ := hcut
            obtain ⟨w6, rfl⟩ : ∃ w6, w6 = wc := ⟨_, rfl⟩
            have hR4 : expA pl (armsGo rec ws.length ws []) = R := by have := hR3.out; rw [hA.out] at this; exact this
            have hP6 := Lib.hid (hP.out.chg hC6.out (by simp))
            have hR6 := Lib.hid (hROr.out.chg hC6.out (by simp))
            have hC7 := Lib.hid ((hC5.out.trans hCr.out).trans hC6.out)
            have hsg := Lib.hid (show gp < w6.heap.size from lt_heap hP6.out)
            have hs6 := Lib.hid (show w5.heap.size ≤ w6.heap.size from (hCr.out.trans hC6.out).size)
            have ha := Lib.hid (rarms_any rec L M hrec.out hL hM w6 B3 gp K pl (.slice none 0 0) A2 (List.length ws) c2 ws hWs.out (argsA_wd hwdA.out hA.out) (argsA_one honA.out hA.out) hP6.out (fun q hq _ e => by
              rw [← hB3.out] at hq
              have h2 := hs5.out; have h3 := hgl.out; have h4 := hgp6.out
              subst e
              rcases hq.2 with h | h <;> omega) (fun q hq => hB3n.out q (by have := hs6.out; omega)))
            replace hR4 := Lib.hid hR4
            clear hR3 hWs hWA hP hROr hC6 hP6
            go_wp2_with fail
            refine (ha.out).mono ?_
            rintro e w7 h7
            obtain ⟨hC8, h7⟩ := h7
            have hR7 := Lib.hid (hR6.out.chg hC8 (by have := hgp6.out; simp; omega))
            have hfin := fun (k a : Int) (s b : Value) => (Chg_setRow (Chg.refl [g6] w7) (g := g6) (.inl (by simp)) #[.int .i64 k, .int .i64 a, s, b])
            have hCf := fun (k a : Int) (s b : Value) => ((hC7.out.then hC8 (by intro x hx; simp at hx; subst hx; right; have := hgl.out; have := hgp6.out; omega)).then (hfin k a s b) (by intro x hx; simp at hx; subst hx; right; have := hgl.out; omega))
            rcases h7 with ⟨l, A7, c7, zs, hl, hln, rfl, hO7, hS7, hB7, hA7⟩ | ⟨p, q, V, hl, hq0, rfl, hO7, hV⟩
            · obtain ⟨z0, z1, z3, z4⟩ := hO7.c0
              have hE : R = .ok (.mk 3 pl [] l) := by
                have := hR4.out
                rw [hl] at this
                cases l with
                | nil => exact absurd rfl hln
                | cons a r => exact this.symm
              obtain ⟨sl7, hsl7⟩ : ∃ v, Value.slice A7 (List.length l) c7 = v := ⟨_, rfl⟩
              have ho7 : sl7.oneCell' = true := by rw [← hsl7]; rfl
              rw [hsl7] at z4
              have hfin2 := Lib.hid (hfin K pl (.slice none 0 0) sl7)
              have hCf2 := Lib.hid (hCf K pl (.slice none 0 0) sl7)
              replace hE := Lib.hid hE
              replace hS7 := Lib.hid hS7
              replace hB7 := Lib.hid hB7
              replace hA7 := Lib.hid hA7
              clear hfin hCf ha hR4 hl
              go_wp2_with (refine wpList_store_rop rfl (.tmp 6) (.tmp 175) rfl g6 K pl (.slice none 0 0) sl7 rfl ho7 rfl rfl hR7.out ?_)
              (try rw [Exit.noGoto_ret])
              have hF := ROS.put hR7.out K pl (.slice none 0 0) sl7
              refine bodyPost_ret (v := .tuple #[.agg #[.int .i64 K, .int .i64 pl, .slice none 0 0, sl7], .int .i64 0, .int .i64 0]) ?_ rfl ?_
              · exact results_cell3 rfl _ _ _ 61 _ _ _ _ rfl hF Try.underlying61 rfl (by kernel_rfl) (by rfl) (by rfl)
              · unfold RCoEnd
                refine ⟨hCf2.out, .inl ⟨_, _, _, _, _, hE.out, rfl, ?_⟩⟩
                have hng : ∀ q, Off B3 gp (.slice none 0 0) q → q ∉ [g6] := fun q hq hm => by
                  have h1 := hq.1
                  rw [← hB3.out] at h1
                  have h2 := hs5.out; have h3 := hgl.out; have h4 := hgp6.out
                  simp at hm; subst hm
                  rcases h1.2 with h | h <;> omega
                have hBB : ∀ q, Off B3 gp (.slice none 0 0) q → B q := fun q hq => by have h1 := hq.1; rw [← hB3.out] at h1; exact h1.1
                rw [opC]
                refine ⟨none, 0, A7, c7, [], zs, by rw [← hsl7, hk3.out]; rfl, ⟨Sl.nil _ _, fun q h0 => absurd h0 (by simp), rfl⟩, hS7.out.chg hfin2.out (fun h0 q hq => ?_), (hB7.out.chg hfin2.out).imp (fun q hq _ => hBB q hq), armsC.imp (fun q hq _ => hBB q hq) _ _ (armsC.chg hfin2.out (fun q hq _ => hng q hq) _ _ hA7.out)⟩
                have h9 := hS7.out.len
                exact hng q (hB7.out q (by omega) hq).1
            · obtain ⟨z0, z1, z3, z4⟩ := hO7.c0
              have hE : R = .error (p, q) := by
                have := hR4.out
                rcases hl with hl | ⟨hl, rfl, rfl⟩
                · rw [hl] at this; exact this.symm
                · rw [hl] at this; exact this.symm
              have hCf2 := Lib.hid (hCf K pl (.slice none 0 0) V)
              replace hE := Lib.hid hE
              replace hq0 := Lib.hid hq0
              clear hfin hCf ha hR4 hl
              go_wp2_with (refine wpList_store_rop rfl (.tmp 6) (.tmp 175) rfl g6 K pl (.slice none 0 0) V rfl hV rfl rfl hR7.out ?_)
              (try rw [Exit.noGoto_ret])
              have hF := ROS.put hR7.out K pl (.slice none 0 0) V
              refine bodyPost_ret (v := .tuple #[.agg #[.int .i64 K, .int .i64 pl, .slice none 0 0, V], .int .i64 p, .int .i64 q]) ?_ rfl ?_
              · exact results_cell3 rfl _ _ _ 61 _ _ _ _ rfl hF Try.underlying61 rfl (by kernel_rfl) (by rfl) (by rfl)
              · unfold RCoEnd
                exact ⟨hCf2.out, .inr ⟨p, q, _, _, _, _, hE.out, hq0.out, rfl, rfl, hV⟩⟩
          · have hd3 : ((K : Int) != 3) = true := by simp; omega
            have hE : R = .ok (.mk K pl (args.map (shiftW base)) []) := by rw [if_pos hk3] at hR1; exact hR1.symm
            obtain ⟨z0, z1, z2, z3⟩ := hP.out.c0
            have f2 := hP.out.f0 2
            have hS1 := (Chg.refl [gp] wr).setCell (p := ⟨gp, 2, none⟩) (.inl (by simp)) (.slice A' j c')
            have hP2 := hP.out.put2 (.slice A' j c')
            have hRO7 := Lib.hid (hROr.out.chg hS1 (by have := hgp6.out; simp; omega))
            obtain ⟨y0, y1, y2, y3⟩ := hP2.c0
            have hS2 := Chg_setRow (Chg.refl [g6] (wr.setCell ⟨gp, 2, none⟩ (.slice A' j c'))) (g := g6) (.inl (by simp)) #[.int .i64 K, .int .i64 pl, .slice A' j c', .slice none 0 0]
            have hS3 := Lib.hid ((hS1.mono (S1 := [gp, g6]) (by simp)).trans (hS2.mono (S1 := [gp, g6]) (by simp)))
            replace hE := Lib.hid hE
            clear hR1 hS1 hS2 hP2
            go_wp2_with (refine wpList_store_rop rfl (.tmp 6) (.tmp 110) rfl g6 K pl (.slice A' j c') (.slice none 0 0) rfl rfl rfl rfl hRO7.out ?_)
            (try rw [Exit.noGoto_ret])
            have hF := ROS.put hRO7.out K pl (.slice A' j c') (.slice none 0 0)
            refine bodyPost_ret (v := .tuple #[.agg #[.int .i64 K, .int .i64 pl, .slice A' j c', .slice none 0 0], .int .i64 0, .int .i64 0]) ?_ rfl ?_
            · exact results_cell3 rfl _ _ _ 61 _ _ _ _ rfl hF Try.underlying61 rfl (by kernel_rfl) (by rfl) (by rfl)
            · unfold RCoEnd
              have h2 := hgl.out
              have h4 := hgp6.out
              have h5 := hs5.out
              refine ⟨(hC5.out.trans hCr.out).then hS3.out (by intro x hx; simp at hx; right; omega), .inl ⟨_, _, _, _, _, hE.out, rfl, ?_⟩⟩
              have hWF := hWR2.out.chg hS3.out (fun q hq _ hm => by rw [← hBw.out] at hq; have := hq.2; simp at hm; omega) (fun q hq hm => by obtain ⟨_, _, hO9, _⟩ := hWR2.out; have := (hO9.lt q hq).1; simp at hm; omega)
              obtain ⟨h7, ys, h8, h9⟩ := hWF
              rw [opC]
              refine ⟨A', c', none, 0, ys, [], by rw [← h7]; rfl, ⟨by rw [← h7]; exact own_sl h8, fun q _ hq => ?_, wordsC.imp (fun q hq _ => by rw [← hBw.out] at hq; exact hq.1.1) h9⟩, Sl.nil _ _, fun q h0 => absurd h0 (by simp), by rw [armsC]⟩
              rw [← h7] at hq
              have := h8.lt q hq
              exact ⟨hB.out q (by have := hC5.out.size; omega), this.2⟩
end Rp
end Go.Proofs.Ytakcolililbkjaa
