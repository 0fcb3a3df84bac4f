/- Contract of quote.Escape at a backslash. Conditions: as it states. -/
import Derived.Test.YtncoedoiakaedaaDoorTclBr
set_option linter.unusedVariables false
set_option linter.unusedSimpArgs false
namespace Go.Proofs.YtncoedoiakaedaaDoor
open Go.RowKit Tcl
theorem digit_any (c : UInt8) (b : Bool) (hb : octal c = b) (w : World) : Calls Tryd.prog 112 #[.int .u8 c.toNat] w fun e w' => e = .returned (.bool b) ∧ w = w' := by
  have h : b = (decide (48 ≤ c.toNat) && decide (c.toNat ≤ 55)) := by rw [← hb]; simp [octal, UInt8.le_iff_toNat_le]
  have hor : (48 ≤ c.toNat ∧ c.toNat ≤ 55) ∨ c.toNat < 48 ∨ 55 < c.toNat := by omega
  clear hb
  rcases hor with h1 | h1 | h1
  all_goals
    have hbv : b = true ∨ b = false := by cases b <;> simp
    rcases hbv with rfl | rfl
    all_goals
      simp only [Bool.eq_false_iff, ne_eq, Bool.and_eq_true, decide_eq_true_eq, Bool.true_eq, Bool.false_eq, eq_comm (a := false), eq_comm (a := true)] at h
      try omega
  all_goals
    go_enter Tryd.func112, Tryd.ntmps112
    go_wp2
    go_ret
    first | exact ⟨rfl, rfl⟩ | exact ⟨by simp; omega, rfl⟩
theorem octals_stop {s : List UInt8} {i m x : Nat} (h : ∀ c, s[i]? = some c → octal c = false) : octals s i m x = (x, i) := by
  cases m with
  | zero => rfl
  | succ m =>
    rw [octals]
    split
    · rename_i c hc; rw [h c hc]; rfl
    · rfl
theorem octals_more {s : List UInt8} {i m x : Nat} {c : UInt8} (h : s[i]? = some c) (ho : octal c = true) : octals s i (m + 1) x = octals s (i + 1) m (x * 8 + (c.toNat - 48)) := by
  rw [octals, h]; simp [ho]
theorem or_all : ∀ x : Fin 64, ∀ y : Fin 8, bits BinOp.or IntKind.i64 ((x.val : Int) * 8) (y.val : Int) = (x.val : Int) * 8 + y.val := by decide +kernel
theorem or_small (x y : Nat) (hx : x < 64) (hy : y < 8) (z : Int) (hz : z = y) : Value.int .i64 (bits BinOp.or IntKind.i64 ((x : Int) * 8) z) = Value.int .i64 ((x * 8 + y : Nat) : Int) := by
  rw [hz, or_all ⟨x, hx⟩ ⟨y, hy⟩]
  congr 1
set_option maxRecDepth 100000 in
set_option maxHeartbeats 4000000 in
theorem esc_any (s : List UInt8) (i : Nat) (hs : s.length ≤ 16777300) (hi : s[i]? = some 92) (w : World) :
    Calls Tryd.prog 108 #[.string (bstr s), .int .i64 i] w fun e w' => w = w' ∧ ((esc s i = none ∧ e = .returned (.tuple #[.int .u8 0, .int .i64 0, .int .i64 5])) ∨ ∃ x j, esc s i = some (x, j) ∧ e = .returned (.tuple #[.int .u8 (UInt8.toNat x), .int .i64 (j : Nat), .int .i64 0])) := by
  have hsz : (bstr s).size = s.length := rfl
  have hil := lt_of_some hi
  obtain ⟨B, hB⟩ : ∃ B, bstr s = B := ⟨_, rfl⟩
  have hby : ∀ i (h : i < B.size), s[i]? = some (B[i]'h) := by rw [← hB]; exact fun i h => byte_of h
  rw [hB] at hsz ⊢
  clear hB
  have h92 : B[i]'(by omega) = 92 := by have := hby i (by omega); rw [hi] at this; exact (Option.some.inj this).symm
  have hb92 : (((B[i]'(by omega)).toNat : Int) != 92) = false := by rw [h92]; rfl
  replace hby := Lib.hid hby
  by_cases h1 : i + 1 < s.length
  · obtain ⟨c, hc⟩ : ∃ c, B[i + 1]'(by omega) = c := ⟨_, rfl⟩
    have hsc : s[i + 1]? = some c := by rw [hby.out (i + 1) (by omega), hc]
    have hne : ((i : Int) + 1 == (s.length : Int)) = false := by rw [beq_eq_false_iff_ne]; omega
    cases ho : octal c with
    | true =>
      have hd := Lib.hid (fun w => digit_any c true ho w)
      have he : esc s i = some (UInt8.ofNat (octals s (i + 1) 3 0).1, (octals s (i + 1) 3 0).2) := by unfold esc; rw [hsc]; simp [ho]
      replace he := Lib.hid he
      go_enter Tryd.func108, Tryd.ntmps108
      go_wp2_with fail
      refine (hd.out _).mono ?_
      rintro e w' ⟨rfl, rfl⟩
      clear hd
      go_wp2_with fail
      go_loopw [8, 9] (fun v8 v9 wr => w = wr ∧ ∃ (k x : Nat), k ≤ 3 ∧ v8 = .int .i64 x ∧ v9 = .int .i64 (i + 1 + k : Nat) ∧ x < 8 ^ k ∧ i + 1 + k ≤ s.length ∧ Hid (octals s (i + 1) 3 0 = octals s (i + 1 + k) (3 - k) x)) (fun _ v9 _ => i + 5 - (intOf v9).toNat)
      case atStart => exact ⟨rfl, 0, 0, by omega, rfl, by go_num, by omega, by omega, rfl⟩
      case round =>
        obtain ⟨rfl, k, x, hk, rfl, rfl, hx, hkl, hoct⟩ := hrel
        have hx8 : ((UInt8.ofNat x).toNat : Int) = (x : Int) % 256 := by
          have : (UInt8.ofNat x).toNat = x % 256 := rfl
          omega
        have hend : octals s (i + 1 + k) (3 - k) x = (x, i + 1 + k) → esc s i = some (UInt8.ofNat x, i + 1 + k) := fun h => by rw [he.out, hoct.out, h]
        replace hend := Lib.hid hend
        replace hx8 := Lib.hid hx8
        by_cases hk3 : k = 3
        · subst hk3
          have hE := Lib.hid (hend.out rfl)
          clear hend hoct he
          go_wp2_with fail
          all_goals
            go_ret3
            exact ⟨rfl, .inr ⟨_, _, hE.out, by rw [hx8.out]; first | rfl | (congr 3)⟩⟩
        by_cases hk4 : i + 1 + k < s.length
        · obtain ⟨d, hd⟩ : ∃ d, B[i + 1 + k]'(by omega) = d := ⟨_, rfl⟩
          have hsd : s[i + 1 + k]? = some d := by rw [hby.out _ (by omega), hd]
          cases hod : octal d with
          | true =>
            have hdd := Lib.hid (fun w => digit_any d true hod w)
            have hx64 : x < 64 := by
              have h3 : k = 0 ∨ k = 1 ∨ k = 2 := by omega
              rcases h3 with h3 | h3 | h3 <;> subst h3 <;> omega
            have hd48 : 48 ≤ d.toNat ∧ d.toNat ≤ 55 := by simpa [octal, UInt8.le_iff_toNat_le] using hod
            obtain ⟨m, hm⟩ : ∃ m, 3 - k = m + 1 := ⟨2 - k, by omega⟩
            have hn : Hid (octals s (i + 1) 3 0 = octals s (i + 1 + k + 1) m (x * 8 + (d.toNat - 48))) := hoct.out.trans (by rw [hm]; exact octals_more hsd hod)
            clear hend hoct
            go_wp2_with fail
            refine (hdd.out _).mono ?_
            rintro e w' ⟨rfl, rfl⟩
            clear hdd
            go_wp2_with fail
            go_roundw
            case rel =>
              refine ⟨by first | rfl | trivial, k + 1, x * 8 + (d.toNat - 48), by omega, ?_, by go_num, ?_, by omega, ?_⟩
              · exact or_small x (d.toNat - 48) hx64 (by omega) _ (by omega)
              · have : 8 ^ (k + 1) = 8 ^ k * 8 := Nat.pow_succ ..
                omega
              · rw [show 3 - (k + 1) = m by omega]; exact hn.out
            case measure => simp [intOf]; omega
          | false =>
            have hdd := Lib.hid (fun w => digit_any d false hod w)
            have hE := Lib.hid (hend.out (octals_stop (fun c hc => by rw [hsd] at hc; cases hc; exact hod)))
            clear hend hoct
            go_wp2_with fail
            refine (hdd.out _).mono ?_
            rintro e w' ⟨rfl, rfl⟩
            clear hdd
            go_wp2_with fail
            go_ret3
            exact ⟨rfl, .inr ⟨_, _, hE.out, by rw [hx8.out]; first | rfl | (congr 3)⟩⟩
        · have hE := Lib.hid (hend.out (octals_stop (fun c hc => by rw [List.getElem?_eq_none (by omega)] at hc; cases hc)))
          clear hend hoct
          go_wp2_with fail
          go_ret3
          exact ⟨rfl, .inr ⟨_, _, hE.out, by rw [hx8.out]; first | rfl | (congr 3)⟩⟩
    | false =>
      have hd := Lib.hid (fun w => digit_any c false ho w)
      have he : esc s i = some (if c = 114 then 13 else if c = 110 then 10 else if c = 116 then 9 else c, i + 2) := by unfold esc; rw [hsc]; simp [ho]
      replace he := Lib.hid he
      by_cases q1 : c = 114
      · subst q1
        go_enter Tryd.func108, Tryd.ntmps108
        go_wp2_with fail
        refine (hd.out _).mono ?_
        rintro e w' ⟨rfl, rfl⟩
        go_wp2_with fail
        go_ret3
        exact ⟨rfl, .inr ⟨_, _, he.out, by first | rfl | (simp; done)⟩⟩
      have k1 := u8n (n := 114) q1
      by_cases q2 : c = 110
      · subst q2
        go_enter Tryd.func108, Tryd.ntmps108
        go_wp2_with fail
        refine (hd.out _).mono ?_
        rintro e w' ⟨rfl, rfl⟩
        go_wp2_with fail
        go_ret3
        exact ⟨rfl, .inr ⟨_, _, he.out, by first | rfl | (simp; done)⟩⟩
      have k2 := u8n (n := 110) q2
      by_cases q3 : c = 116
      · subst q3
        go_enter Tryd.func108, Tryd.ntmps108
        go_wp2_with fail
        refine (hd.out _).mono ?_
        rintro e w' ⟨rfl, rfl⟩
        go_wp2_with fail
        go_ret3
        exact ⟨rfl, .inr ⟨_, _, he.out, by first | rfl | (simp; done)⟩⟩
      have k3 := u8n (n := 116) q3
      have hq : (if c = 114 then 13 else if c = 110 then 10 else if c = 116 then 9 else c) = c := by rw [if_neg q1, if_neg q2, if_neg q3]
      have he2 := he.out
      rw [hq] at he2
      replace he2 := Lib.hid he2
      clear he q1 q2 q3 hq
      go_enter Tryd.func108, Tryd.ntmps108
      go_wp2_with fail
      refine (hd.out _).mono ?_
      rintro e w' ⟨rfl, rfl⟩
      go_wp2_with fail
      go_ret3
      exact ⟨rfl, .inr ⟨_, _, he2.out, by first | rfl | (simp; done)⟩⟩
  · have he : esc s i = none := by unfold esc; rw [List.getElem?_eq_none (by omega)]
    have hne : ((i : Int) + 1 == (s.length : Int)) = true := by rw [beq_iff_eq]; omega
    replace he := Lib.hid he
    go_enter Tryd.func108, Tryd.ntmps108
    go_wp2_with fail
    go_ret3
    exact ⟨rfl, .inl ⟨he.out, rfl⟩⟩
end Go.Proofs.YtncoedoiakaedaaDoor
