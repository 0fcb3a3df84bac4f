/- Contract of package plan's Count. Conditions: as it states. -/
import Derived.Test.YtakcolililbkjaaPlPlan
set_option linter.unusedVariables false
set_option linter.unusedSimpArgs false
namespace Go.Proofs.Ytakcolililbkjaa
namespace Pl
open Go.RowKit Tcl Plan
/-- An operation in a slice. -/
theorem ops_at {w : World} {B : Nat → Prop} {A : Option Addr} {c n : Nat} {l : List Plan.Op} {i : Nat} {o : Plan.Op} (h : OpsV w B (.slice A n c) l) (hn : n = l.length) (hi : l[i]? = some o) :
    ∃ b0 o0 Aw cw Aa ca, A = some ⟨b0, o0, none⟩ ∧ w.cell? ⟨b0, o0 + i * 4, none⟩ = some (.int .i64 o.kind) ∧ w.cell? ⟨b0, o0 + i * 4 + 1, none⟩ = some (.int .i64 o.at_) ∧ w.cell? ⟨b0, o0 + i * 4 + 2, none⟩ = some (.slice Aw o.words.length cw) ∧ w.cell? ⟨b0, o0 + i * 4 + 3, none⟩ = some (.slice Aa o.arms.length ca) ∧
      ∃ zs, Sl w 5 (.slice Aa o.arms.length ca) o.arms.length zs ∧ armsC w B zs o.arms := by
  subst hn
  obtain ⟨xs, h1, -, h3⟩ := h
  have hil := (List.getElem?_eq_some_iff.1 hi).1
  have hl := h1.len
  obtain ⟨b0, o0, rfl, hr⟩ := sl_row h1 (by omega)
  obtain ⟨p, hp, hx⟩ := opsC.get h3 hi
  obtain ⟨k, a, ws, rs⟩ := o
  rw [opC] at hp
  obtain ⟨Aw, cw, Aa, ca, ys, zs, rfl, -, h5, -, h7⟩ := hp
  have x0 := hx 0 (by omega)
  have x1 := hx 1 (by omega)
  have x2 := hx 2 (by omega)
  have x3 := hx 3 (by omega)
  refine ⟨b0, o0, Aw, cw, Aa, ca, rfl, hr _ _ x0, ?_, ?_, ?_, zs, h5, h7⟩
  · have := hr _ _ x1; rw [← Nat.add_assoc] at this; exact this
  · have := hr _ _ x2; rw [← Nat.add_assoc] at this; exact this
  · have := hr _ _ x3; rw [← Nat.add_assoc] at this; exact this
/-- An arm in a slice. -/
theorem arms_at {w : World} {B : Nat → Prop} {A : Option Addr} {c n : Nat} {l : List Arm} {zs : List Value} {i : Nat} {a : Arm} (h : Sl w 5 (.slice A n c) n zs) (h3 : armsC w B zs l) (hn : n = l.length) (hi : l[i]? = some a) :
    ∃ b0 o0 Ap cp Ab cb, A = some ⟨b0, o0, none⟩ ∧ w.cell? ⟨b0, o0 + i * 5, none⟩ = some (.int .i64 a.kind) ∧ w.cell? ⟨b0, o0 + i * 5 + 1, none⟩ = some (.int .i64 a.pat.at_) ∧ w.cell? ⟨b0, o0 + i * 5 + 2, none⟩ = some (.int .i64 a.pat.kind) ∧ w.cell? ⟨b0, o0 + i * 5 + 3, none⟩ = some (.slice Ap a.pat.parts.length cp) ∧ w.cell? ⟨b0, o0 + i * 5 + 4, none⟩ = some (.slice Ab a.body.length cb) ∧
      PartsAt w (.slice Ap a.pat.parts.length cp) a.pat.parts ∧ OpsV w B (.slice Ab a.body.length cb) a.body := by
  subst hn
  have hil := (List.getElem?_eq_some_iff.1 hi).1
  have hl := h.len
  obtain ⟨b0, o0, rfl, hr⟩ := sl_row h (by omega)
  obtain ⟨p, hp, hx⟩ := armsC.get h3 hi
  obtain ⟨k, wd, body⟩ := a
  rw [armC] at hp
  obtain ⟨hp3, Ab, cb, ys, rfl, ⟨Ap, cp, rfl, h4, -⟩, h5⟩ := hp
  have x0 := hx 0 (by omega)
  have x1 := hx 1 (by omega)
  have x2 := hx 2 (by omega)
  have x3 := hx 3 (by omega)
  have x4 := hx 4 (by omega)
  refine ⟨b0, o0, Ap, cp, Ab, cb, rfl, hr _ _ x0, ?_, ?_, ?_, ?_, h4, ys, h5⟩
  · have := hr _ _ x1; rw [← Nat.add_assoc] at this; exact this
  · have := hr _ _ x2; rw [← Nat.add_assoc] at this; exact this
  · have := hr _ _ x3; rw [← Nat.add_assoc] at this; exact this
  · have := hr _ _ x4; rw [← Nat.add_assoc] at this; exact this
theorem cntOs_succ {l : List Plan.Op} {i : Nat} {o : Plan.Op} (h : l[i]? = some o) : cntOs (l.take (i + 1)) = cntOs (l.take i) + 1 + cntAs o.arms := by
  rw [take_get h, cntOs_append]
  cases o
  rw [cntOs, cntOs, cntO]
  simp only [Op.arms]; omega
theorem cntAs_append (b : List Arm) : ∀ a, cntAs (a ++ b) = cntAs a + cntAs b
  | [] => by rw [cntAs]; simp
  | o :: r => by rw [List.cons_append, cntAs, cntAs, cntAs_append b r]; omega
theorem cntAs_succ {l : List Arm} {i : Nat} {a : Arm} (h : l[i]? = some a) : cntAs (l.take (i + 1)) = cntAs (l.take i) + cntOs a.body := by
  rw [take_get h, cntAs_append]
  cases a
  rw [cntAs, cntAs, cntA]
  simp only [Arm.body]; omega
theorem cntAs_le {l : List Arm} (i : Nat) : cntAs (l.take i) ≤ cntAs l := by
  have : cntAs l = cntAs (l.take i) + cntAs (l.drop i) := by rw [← cntAs_append, List.take_append_drop]
  omega
theorem cntOs_le {l : List Plan.Op} (i : Nat) : cntOs (l.take i) ≤ cntOs l := by
  have : cntOs l = cntOs (l.take i) + cntOs (l.drop i) := by rw [← cntOs_append, List.take_append_drop]
  omega
theorem wrap_add (a b : Int) : IntKind.i64.wrap (IntKind.i64.wrap a + IntKind.i64.wrap b) = IntKind.i64.wrap (a + b) := by
  rw [IntKind.wrap_i64, IntKind.wrap_i64, IntKind.wrap_i64, IntKind.wrap_i64]
  omega
theorem cnt_body {l : List Plan.Op} {i j : Nat} {o : Plan.Op} {a : Arm} (hi : l[i]? = some o) (hj : o.arms[j]? = some a) : cntOs a.body < cntOs l := by
  have h1 := cntOs_le (l := l) (i + 1)
  rw [cntOs_succ hi] at h1
  have h2 := cntAs_le (l := o.arms) (j + 1)
  rw [cntAs_succ hj] at h2
  omega
theorem ops_max {w : World} {B : Nat → Prop} {A : Option Addr} {n c : Nat} {l : List Plan.Op} (h : OpsV w B (.slice A n c) l) : l.length ≤ 9223372036854775807 ∧ n = l.length := by
  obtain ⟨xs, ⟨A0, c0, e, j0, j1, j2, -⟩, -⟩ := h
  simp only [Value.slice.injEq] at e
  obtain ⟨-, rfl, rfl⟩ := e
  unfold maxLen at j2
  exact ⟨by omega, rfl⟩
set_option maxRecDepth 100000 in
set_option maxHeartbeats 8000000 in
theorem count_step (l : List Plan.Op) (ih : ∀ b : List Plan.Op, cntOs b < cntOs l → ∀ (W : World) (B : Nat → Prop) (A : Option Addr) (c : Nat), OpsV W B (.slice A (List.length b) c) b → Calls Try.prog 11 #[.slice A (List.length b) c] W fun e w' => e = .returned (.int .i64 (IntKind.i64.wrap (cntOs b))) ∧ Chg [] W w')
    (w : World) (B : Nat → Prop) (A : Option Addr) (c : Nat) (h : OpsV w B (.slice A (List.length l) c) l) : Calls Try.prog 11 #[.slice A (List.length l) c] w fun e w' => e = .returned (.int .i64 (IntKind.i64.wrap (cntOs l))) ∧ Chg [] w w' := by
  have hmx := (ops_max h).1
  obtain ⟨n, hn⟩ : ∃ n, List.length l = n := ⟨_, rfl⟩
  rw [hn] at h hmx ⊢
  obtain ⟨R, hR⟩ : ∃ R, IntKind.i64.wrap (cntOs l : Int) = R := ⟨_, rfl⟩
  rw [hR]
  replace h := Lib.hid h
  replace ih := Lib.hid ih
  replace hn := Lib.hid hn
  replace hR := Lib.hid hR
  go_enter Try.func11, Try.ntmps11
  go_wp2_with fail
  go_loopg [3, 12] n (fun gk v3 v12 wr => ∃ (i : Nat) (z : Int), v3 = .int .i64 z ∧ v12 = .int .i64 i ∧ i ≤ n ∧ gk = n - i ∧ Hid (z = IntKind.i64.wrap ((n : Int) + cntOs (l.take i) - i)) ∧ Hid (Chg [] w wr))
  case atStart => exact ⟨0, n, rfl, rfl, by omega, rfl, Lib.hid (by rw [List.take_zero, cntOs, IntWalk.i64_in _ (by omega)]; omega), Lib.hid (Chg.refl _ _)⟩
  case round =>
    obtain ⟨i, z, rfl, rfl, hi, rfl, hz, hC⟩ := hrel
    by_cases hlt : i < n
    · obtain ⟨o, ho⟩ : ∃ o, l[i]? = some o := ⟨_, List.getElem?_eq_getElem (by have := hn.out; omega)⟩
      obtain ⟨b0, o0, Aw, cw, Aa, ca, rfl, q0, q1, q2, q3, zs, hS, hA⟩ := ops_at (OpsV.chg h.out hC.out (fun _ _ _ => by simp)) hn.out.symm ho
      have hsu := cntOs_succ ho
      obtain ⟨m, hm⟩ : ∃ m, List.length o.arms = m := ⟨_, rfl⟩
      obtain ⟨nw, hnw⟩ : ∃ nw, List.length o.words = nw := ⟨_, rfl⟩
      rw [hm] at q3 hS
      rw [hnw] at q2
      have hm9 : m ≤ 9223372036854775807 := by
        obtain ⟨A0, c0, e, j0, j1, j2, -⟩ := hS
        simp only [Value.slice.injEq] at e
        obtain ⟨-, -, rfl⟩ := e
        unfold maxLen at j2; omega
      have hcb := Lib.hid (fun j a (hj : o.arms[j]? = some a) => ih.out a.body (cnt_body ho hj))
      obtain ⟨ok, hok⟩ : ∃ k, o.kind = k := ⟨_, rfl⟩
      obtain ⟨oa, hoa⟩ : ∃ k, o.at_ = k := ⟨_, rfl⟩
      rw [hok] at q0
      rw [hoa] at q1
      have hCa := Lib.hid (hC.out.alloc (.cells #[.int .i64 ok, .int .i64 oa, .slice Aw nw cw, .slice Aa m ca] 35))
      have hgw := Lib.hid (fun W (hc : Chg [] wr W) => (⟨hS.chg hc (fun _ _ _ => by simp), armsC.chg hc (fun _ _ _ => by simp) _ _ hA⟩ : Sl W 5 (.slice Aa m ca) m zs ∧ armsC W B zs o.arms))
      replace hsu := Lib.hid hsu
      replace hm := Lib.hid hm
      have hCb := Lib.hid ((Chg.refl [] wr).alloc (.cells #[.int .i64 ok, .int .i64 oa, .slice Aw nw cw, .slice Aa m ca] 35))
      clear hS hA hok hoa hnw ho
      go_wp2_with fail
      generalize wr.alloc _ = wi at hCa hCb ⊢
      go_loopg [3, 19] m (fun gk2 v3 v19 wq => ∃ (j : Nat) (y : Int), v3 = .int .i64 y ∧ v19 = .int .i64 j ∧ j ≤ m ∧ gk2 = m - j ∧ Hid (y = IntKind.i64.wrap ((n : Int) + cntOs (l.take i) - i + cntAs (o.arms.take j))) ∧ Hid (Chg [] w wq) ∧ Hid (Chg [] wr wq))
      case atStart => exact ⟨0, z, rfl, rfl, by omega, rfl, Lib.hid (by rw [hz.out, List.take_zero, cntAs]; congr 1; omega), hCa, hCb⟩
      case round =>
        obtain ⟨j, y, rfl, rfl, hj, rfl, hy, hC2, hC3⟩ := hrel
        by_cases hjt : j < m
        · obtain ⟨a, ha⟩ : ∃ a, o.arms[j]? = some a := ⟨_, List.getElem?_eq_getElem (by have := hm.out; omega)⟩
          obtain ⟨kS, kA⟩ := hgw.out _ hC3.out
          obtain ⟨b1, o1, Ap, cp, Ab, cb, rfl, u0, u1, u2, u3, u4, -, hOp⟩ := arms_at kS kA hm.out.symm ha
          have hsa := cntAs_succ ha
          have hcl := hcb.out j a ha
          obtain ⟨x, hx⟩ : ∃ x, IntKind.i64.wrap (cntOs a.body : Int) = x := ⟨_, rfl⟩
          rw [hx] at hcl
          obtain ⟨y', hy'⟩ : ∃ y', IntKind.i64.wrap ((n : Int) + cntOs (l.take i) - i + cntAs (o.arms.take (j + 1))) = y' := ⟨_, rfl⟩
          have hwr : IntKind.i64.wrap (y + x) = y' := by
            rw [hy.out, ← hx, wrap_add, ← hy', hsa]
            congr 1; omega
          obtain ⟨nb, hnb⟩ : ∃ nb, List.length a.body = nb := ⟨_, rfl⟩
          obtain ⟨np, hnp⟩ : ∃ nb, a.pat.parts.length = nb := ⟨_, rfl⟩
          obtain ⟨c1, hc1⟩ : ∃ k, a.kind = k := ⟨_, rfl⟩
          obtain ⟨c2, hc2⟩ : ∃ k, a.pat.at_ = k := ⟨_, rfl⟩
          obtain ⟨c3, hc3⟩ : ∃ k, a.pat.kind = k := ⟨_, rfl⟩
          rw [hnb] at u4 hOp hcl
          rw [hnp] at u3
          rw [hc1] at u0
          rw [hc2] at u1
          rw [hc3] at u2
          have hal := (Chg.refl [] wr).alloc (.cells #[.int .i64 c1, .int .i64 c2, .int .i64 c3, .slice Ap np cp, .slice Ab nb cb] 40)
          have hcl2 := Lib.hid (hcl _ _ Ab cb (OpsV.chg hOp hal (fun _ _ _ => by simp)))
          have hC4 := Lib.hid (hC2.out.trans hal)
          have hC5 := Lib.hid (hC3.out.trans hal)
          replace hy' := Lib.hid hy'
          clear kS kA hsa hcl hx hnb hnp hc1 hc2 hc3 hOp hal ha
          go_wp2_with fail
          refine (hcl2.out).mono ?_
          rintro e w6 ⟨rfl, hC6⟩
          replace hC4 := Lib.hid (hC4.out.trans hC6)
          replace hC5 := Lib.hid (hC5.out.trans hC6)
          clear hcl2 hC6
          go_wp2_with fail
          go_roundg (m - (j + 1))
          case measure => omega
          case rel => exact ⟨j + 1, y', rfl, rfl, by omega, rfl, Lib.hid hy'.out.symm, hC4, hC5⟩
        · obtain rfl : j = m := by omega
          have hy2 := hy.out
          have ht : o.arms.take j = o.arms := List.take_of_length_le (by have := hm.out; omega)
          rw [ht] at hy2
          have hy3 := Lib.hid (show y = IntKind.i64.wrap ((n : Int) + cntOs (l.take (i + 1)) - ((i + 1 : Nat) : Int)) by rw [hy2, hsu.out]; congr 1; omega)
          clear hy2
          go_wp2_with fail
          go_roundg (n - (i + 1))
          case measure => omega
          case rel => exact ⟨i + 1, y, rfl, rfl, by omega, rfl, hy3, hC2⟩
    · obtain rfl : i = n := by omega
      have hz2 := hz.out
      rw [List.take_of_length_le (by have := hn.out; omega), show (i : Int) + cntOs l - i = cntOs l by omega, hR.out] at hz2
      subst hz2
      go_wp2_with fail
      go_ret
      exact ⟨rfl, hC.out⟩
theorem count_all : ∀ (N : Nat) (l : List Plan.Op), cntOs l < N → ∀ (W : World) (B : Nat → Prop) (A : Option Addr) (c : Nat), OpsV W B (.slice A (List.length l) c) l → Calls Try.prog 11 #[.slice A (List.length l) c] W fun e w' => e = .returned (.int .i64 (IntKind.i64.wrap (cntOs l))) ∧ Chg [] W w' := by
  intro N
  induction N with
  | zero => intro l h; omega
  | succ N ih => intro l h W B A c hO; exact count_step l (fun b hb => ih b (by omega)) W B A c hO
theorem count_any (W : World) (B : Nat → Prop) (A : Option Addr) (n c : Nat) (l : List Plan.Op) (hn : n = l.length) (h : OpsV W B (.slice A n c) l) : Calls Try.prog 11 #[.slice A n c] W fun e w' => e = .returned (.int .i64 (IntKind.i64.wrap (cntOs l))) ∧ Chg [] W w' := by
  subst hn
  exact count_all (cntOs l + 1) l (by omega) W B A c h
end Pl
end Go.Proofs.Ytakcolililbkjaa
