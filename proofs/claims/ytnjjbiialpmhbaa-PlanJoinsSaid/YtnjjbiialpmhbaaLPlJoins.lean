/- The law PlanJoins, walked. No condition. -/
import Derived.Test.YtnjjbiialpmhbaaPlAlive
import Derived.Test.YtnjjbiialpmhbaaPlJoinK
import Derived.Test.YtnjjbiialpmhbaaTclU8
import Derived.Deep.LoopGhost
import Derived.Deep.CutBlock
import Derived.IntWalk
import Derived.Deep.DeepCutAuto
set_option linter.unusedVariables false
set_option linter.unusedSimpArgs false
namespace Go.Proofs.Ytnjjbiialpmhbaa
namespace Pl
open Go.RowKit Tcl Plan
theorem cmdOp_at {rec : List UInt8 → Nat → Except Bad (List Plan.Op)} {body : Bool} {c : Cmd} {o : Plan.Op} (h : cmdOp rec body c = .ok o) : o.at_ = c.at_ := by
  unfold cmdOp at h
  split at h
  · cases h
  · split at h
    · cases h
    · split at h
      · cases h
      · split at h
        · cases h
        · split at h
          · cases h
          · split at h
            · cases h; rfl
            · split at h
              · cases h
              · split at h
                · cases h
                · cases h
                · cases h; rfl
theorem cmdsGo_at {rec : List UInt8 → Nat → Except Bad (List Plan.Op)} {body : Bool} {M : Nat} : ∀ {cs : List Cmd} {acc l : List Plan.Op}, cmdsGo rec body cs acc = .ok l → (∀ o ∈ acc, o.at_ ≤ M) → (∀ c ∈ cs, c.at_ ≤ M) → ∀ o ∈ l, o.at_ ≤ M := by
  intro cs
  induction cs with
  | nil => intro acc l h ha _; simp only [cmdsGo] at h; cases h; exact ha
  | cons c r ih =>
    intro acc l h ha hc
    simp only [cmdsGo] at h
    split at h
    · cases h
    · rename_i o ho
      refine ih h (fun x hx => ?_) (fun x hx => hc x (by simp [hx]))
      rcases List.mem_append.1 hx with hx | hx
      · exact ha x hx
      · simp at hx; subst hx
        rw [cmdOp_at ho]; exact hc c (by simp)
theorem plan_at {s : List UInt8} {l : List Plan.Op} (h : planOf s = .ok l) : ∀ o ∈ l, o.at_ ≤ s.length := by
  obtain ⟨cs, h1, h2⟩ := plan_ok h
  exact cmdsGo_at h2 (by simp) (fun c hc => by have := ((parse_row h1).1 c hc).1; omega)
/-- Whatever is told. -/
theorem pl_some {w : World} {s : List UInt8} {e : Ending} {w' : World} (h : PlEnd w s e w') : Chg [] w w' ∧ ∃ A n c, ∃ p q : Int, e = .returned (.tuple #[.slice A n c, .int .i64 p, .int .i64 q]) := by
  obtain ⟨hC, ⟨l, A, c, -, rfl, -⟩ | ⟨p, q, -, -, rfl⟩⟩ := h
  · exact ⟨hC, A, _, c, 0, 0, rfl⟩
  · exact ⟨hC, none, 0, 0, p, q, rfl⟩
set_option maxRecDepth 100000 in
set_option maxHeartbeats 16000000 in
theorem planJoins_walk (s t : ByteArray) (hs : s.size ≤ maxLen) (ht : t.size ≤ maxLen) (w : World) :
    Calls Try.prog 6 #[.string s, .string t] w fun e w' => e = .returned (.bool true) ∧ Below w.heap.size w w' := by
  unfold maxLen at hs ht
  go_enter Try.func6, Try.ntmps6
  go_upto_region 1 with fail
  go_cut [0, 1] (fun v0 v1 wx => ∃ S T : List UInt8, S.length ≤ 1500 ∧ T.length ≤ 1500 ∧ v0 = .string (bstr S) ∧ v1 = .string (bstr T) ∧ Chg [] w wx)
  case first =>
    by_cases hs2 : s.size ≤ 1500
    all_goals by_cases ht2 : t.size ≤ 1500
    all_goals
      go_wp2_with fail
      go_quiet (fail)
      go_wp2_with fail
      go_meet
      first
      | exact ⟨_, _, by show List.length (Array.toList _) ≤ _; rw [Array.length_toList]; show ByteArray.size _ ≤ _; first | exact hs2 | (rw [ByteArray.size_extract]; omega), by show List.length (Array.toList _) ≤ _; rw [Array.length_toList]; show ByteArray.size _ ≤ _; first | exact ht2 | (rw [ByteArray.size_extract]; omega), congrArg _ (bstr_of rfl), congrArg _ (bstr_of rfl), (Chg.refl [] w).drewN _⟩
  case rest =>
  obtain ⟨S, T, hS, hT, rfl, rfl, hC⟩ := hcut
  replace hC := Lib.hid hC
  have p1 := Lib.hid (fun W => plan_any W S (by omega))
  have p2 := Lib.hid (fun W => plan_any W T (by omega))
  have p3 := Lib.hid (fun W => plan_any W (S ++ 10 :: T) (by simp; omega))
  have g1 : (bstr S).size = S.length := rfl
  have g2 : (bstr T).size = T.length := rfl
  have hB : bstr S ++ (⟨#[10]⟩ : ByteArray) ++ bstr T = bstr (S ++ 10 :: T) := by
    refine bstr_of ?_; rw [app_list, app_list]; simp [bstr]
  obtain ⟨Bu, hBe⟩ : ∃ B, bstr (S ++ 10 :: T) = B := ⟨_, rfl⟩
  rw [hBe] at hB
  have p3 := Lib.hid (fun W => hBe ▸ p3.out W)
  clear hBe
  cases hs : planOf S with
  | error b =>
    obtain ⟨p, q⟩ := b
    replace hs := Lib.hid hs
    go_wp2_with fail
    refine (p1.out _).mono ?_
    rintro e w1 h1
    obtain ⟨hC1, hq, rfl⟩ := pl_bad h1 hs.out
    have hq' : ((q : Int) != 0) = true := by simp; omega
    replace hC := Lib.hid (hC.out.trans hC1)
    clear h1 hC1
    go_wp2_with fail
    refine (p2.out _).mono ?_
    rintro e w2 h1
    obtain ⟨hC1, A0, n0, c0, x0, y0, rfl⟩ := pl_some h1
    replace hC := Lib.hid (hC.out.trans hC1)
    clear h1 hC1
    go_wp2_with fail
    refine (alive_any _).mono ?_
    rintro e w3 ⟨rfl, hC1⟩
    replace hC := Lib.hid (hC.out.trans hC1)
    clear hC1
    go_wp2_with fail
    go_ret
    exact ⟨rfl, hC.out.below⟩
  | ok a =>
    replace hs := Lib.hid hs
    cases ht : planOf T with
    | error b =>
      obtain ⟨p, q⟩ := b
      replace ht := Lib.hid ht
      go_wp2_with fail
      refine (p1.out _).mono ?_
      rintro e w1 h1
      obtain ⟨hC1, A1, c1, rfl, -⟩ := pl_ok h1 hs.out
      replace hC := Lib.hid (hC.out.trans hC1)
      clear h1 hC1
      go_wp2_with fail
      refine (p2.out _).mono ?_
      rintro e w2 h1
      obtain ⟨hC1, hq, rfl⟩ := pl_bad h1 ht.out
      have hq' : ((q : Int) != 0) = true := by simp; omega
      replace hC := Lib.hid (hC.out.trans hC1)
      clear h1 hC1
      go_wp2_with fail
      refine (alive_any _).mono ?_
      rintro e w3 ⟨rfl, hC1⟩
      replace hC := Lib.hid (hC.out.trans hC1)
      clear hC1
      go_wp2_with fail
      go_ret
      exact ⟨rfl, hC.out.below⟩
    | ok b =>
      have hu := Lib.hid (plan_joins (by omega) hs.out ht)
      have hbat := Lib.hid (plan_at ht)
      replace ht := Lib.hid ht
      go_wp2_with fail
      refine (p1.out _).mono ?_
      rintro e w1 h1
      obtain ⟨hC1, A1, c1, rfl, hO1⟩ := pl_ok h1 hs.out
      replace hC := Lib.hid (hC.out.trans hC1)
      replace hO1 := Lib.hid hO1
      obtain ⟨na, hna⟩ : ∃ n, List.length a = n := ⟨_, rfl⟩
      rw [hna] at hO1 ⊢
      clear h1 hC1
      replace hna := Lib.hid hna
      go_wp2_with fail
      refine (p2.out _).mono ?_
      rintro e w2 h1
      obtain ⟨hC1, A2, c2, rfl, hO2⟩ := pl_ok h1 ht.out
      replace hC := Lib.hid (hC.out.trans hC1)
      replace hO1 := Lib.hid (OpsV.chg hO1.out hC1 (fun _ _ _ => by simp))
      replace hO2 := Lib.hid hO2
      obtain ⟨nb, hnb⟩ : ∃ n, List.length b = n := ⟨_, rfl⟩
      rw [hnb] at hO2 ⊢
      clear h1 hC1
      replace hnb := Lib.hid hnb
      go_wp2_with fail
      refine (p3.out _).mono ?_
      rintro e w3 h1
      obtain ⟨hC1, A3, c3, rfl, hO3⟩ := pl_ok h1 hu.out
      replace hC := Lib.hid (hC.out.trans hC1)
      replace hO1 := Lib.hid (OpsV.chg hO1.out hC1 (fun _ _ _ => by simp))
      replace hO2 := Lib.hid (OpsV.chg hO2.out hC1 (fun _ _ _ => by simp))
      obtain ⟨U, hU⟩ : ∃ U, a ++ shOs (S.length + 1) b = U := ⟨_, rfl⟩
      rw [hU] at hO3 ⊢
      have hUl : List.length U = na + nb := by rw [← hU, List.length_append, shOs_map, List.length_map, hna.out, hnb.out]
      have hUc : cntOs U = cntOs a + cntOs b := by rw [← hU, cntOs_append, cntOs_sh]
      have hUg : ∀ i o, b[i]? = some o → U[na + i]? = some (shO (S.length + 1) o) := fun i o ho => by
        rw [← hU, List.getElem?_append_right (by rw [hna.out]; omega), hna.out, Nat.add_sub_cancel_left, shOs_map, List.getElem?_map, ho]; rfl
      have m1 := (ops_max hO1.out).1
      have m2 := (ops_max hO2.out).1
      have m3 := (ops_max hO3).1
      rw [hna.out] at m1
      rw [hnb.out] at m2
      rw [hUl] at m3 hO3 ⊢
      replace hO3 := Lib.hid hO3
      replace hUl := Lib.hid hUl
      replace hUg := Lib.hid hUg
      obtain ⟨nu, hnu⟩ : ∃ n, na + nb = n := ⟨_, rfl⟩
      rw [hnu] at hO3 m3 ⊢
      have hwl : IntKind.i64.wrap ((na : Int) + (nb : Int)) = (nu : Int) := by rw [IntWalk.i64_in _ (by omega)]; omega
      obtain ⟨x1, hx1⟩ : ∃ x, IntKind.i64.wrap (cntOs a : Int) = x := ⟨_, rfl⟩
      obtain ⟨x2, hx2⟩ : ∃ x, IntKind.i64.wrap (cntOs b : Int) = x := ⟨_, rfl⟩
      obtain ⟨x3, hx3⟩ : ∃ x, IntKind.i64.wrap (cntOs U : Int) = x := ⟨_, rfl⟩
      have hwc : IntKind.i64.wrap (x1 + x2) = x3 := by rw [← hx1, ← hx2, wrap_add, ← hx3, hUc]; congr 1
      have k1 := Lib.hid (fun W (hc : Chg [] w3 W) => hx1 ▸ count_any W _ A1 na c1 a hna.out.symm (OpsV.chg hO1.out hc (fun _ _ _ => by simp)))
      have k2 := Lib.hid (fun W (hc : Chg [] w3 W) => hx2 ▸ count_any W _ A2 nb c2 b hnb.out.symm (OpsV.chg hO2.out hc (fun _ _ _ => by simp)))
      have k3 := Lib.hid (fun W (hc : Chg [] w3 W) => hx3 ▸ count_any W _ A3 nu c3 U (by rw [hUl.out, hnu]) (OpsV.chg hO3.out hc (fun _ _ _ => by simp)))
      replace hnu := Lib.hid hnu
      clear h1 hC1 hU hUc hx1 hx2 hx3
      go_wp2_with fail
      refine (k3.out w3 (Chg.refl _ _)).mono ?_
      rintro e w4 ⟨rfl, hC4⟩
      go_wp2_with fail
      refine (k1.out w4 hC4).mono ?_
      rintro e w5 ⟨rfl, hC5⟩
      replace hC4 := hC4.trans hC5
      clear hC5
      go_wp2_with fail
      refine (k2.out w5 hC4).mono ?_
      rintro e w6 ⟨rfl, hC5⟩
      replace hC4 := Lib.hid (hC4.trans hC5)
      have hC6 := Lib.hid (hC.out.trans hC4.out)
      clear hC5 hC k1 k2 k3
      go_wp2_with fail
      go_loopg [77] nb (fun gk v77 wr => ∃ (i : Nat), v77 = .int .i64 i ∧ i ≤ nb ∧ gk = nb - i ∧ Hid (Chg [] w3 wr) ∧ Hid (Chg [] w wr))
      case atStart => exact ⟨0, rfl, by omega, rfl, hC4, hC6⟩
      case round =>
        obtain ⟨i, rfl, hi, rfl, hCa, hCb⟩ := hrel
        clear hC4 hC6
        by_cases hlt : i < nb
        · obtain ⟨o, ho⟩ : ∃ o, b[i]? = some o := ⟨_, List.getElem?_eq_getElem (by have := hnb.out; omega)⟩
          obtain ⟨b2, o2, _, _, _, _, rfl, q0, q1, -⟩ := ops_at (OpsV.chg hO2.out hCa.out (fun _ _ _ => by simp)) hnb.out.symm ho
          obtain ⟨b3, o3, _, _, _, _, rfl, u0, u1, -⟩ := ops_at (OpsV.chg hO3.out hCa.out (fun _ _ _ => by simp)) (by rw [hUl.out, hnu.out]) (hUg.out i o ho)
          have hoa := hbat.out o (List.mem_of_getElem? ho)
          obtain ⟨kk, hkk⟩ : ∃ k, na + i = k := ⟨_, rfl⟩
          rw [hkk] at u0 u1
          have hnu' := hnu.out
          have hk3 : kk < nu := by omega
          have hwk : IntKind.i64.wrap ((na : Int) + (i : Int)) = (kk : Int) := by rw [IntWalk.i64_in _ (by omega)]; omega
          obtain ⟨k, a, ws, rs⟩ := o
          simp only [shO, Op.kind, Op.at_] at q0 q1 u0 u1 hoa
          obtain ⟨a', ha'⟩ : ∃ a', a + (S.length + 1) = a' := ⟨_, rfl⟩
          rw [ha'] at u1
          obtain ⟨a2, ha2⟩ : ∃ a2, a + S.length = a2 := ⟨_, rfl⟩
          have hwa : IntKind.i64.wrap ((a : Int) + (S.length : Int)) = (a2 : Int) := by rw [IntWalk.i64_in _ (by omega)]; omega
          have hwb : IntKind.i64.wrap ((a2 : Int) + 1) = (a' : Int) := by rw [IntWalk.i64_in _ (by omega)]; omega
          clear hkk hnu' ha' ha2 ho
          go_wp2_with fail
          go_quiet (fail)
          go_wp2_with fail
          go_roundg (nb - (i + 1))
          case measure => omega
          case rel => exact ⟨i + 1, rfl, by omega, rfl, Lib.hid (hCa.out.drewN _), Lib.hid (hCb.out.drewN _)⟩
        · obtain rfl : i = nb := by omega
          go_wp2_with fail
          refine (alive_any _).mono ?_
          rintro e w7 ⟨rfl, hC1⟩
          have hC := Lib.hid (hCb.out.trans hC1)
          clear hC1
          go_wp2_with fail
          go_ret
          exact ⟨rfl, hC.out.below⟩
theorem planJoins_row (v0 : Value) (d0 : Dt) (v1 : Value) (d1 : Dt) (w : World) (h0 : Reads w .str v0 d0) (h1 : Reads w .str v1 d1) :
    Calls Try.prog 6 #[v0, v1] w fun e w' => e = .returned (.bool true) ∧ Below w.heap.size w w' := by
  cases h0 with
  | str a0 =>
    cases h1 with
    | str a1 => exact planJoins_walk _ _ a0 a1 w
end Pl
end Go.Proofs.Ytnjjbiialpmhbaa
