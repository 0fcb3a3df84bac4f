/- The law TclDeep, walked. No condition. -/
import Derived.Test.YteodhnblbehenaaTclAlive
import Derived.Test.YteodhnblbehenaaTclDeep
import Derived.Test.YteodhnblbehenaaReads
import Derived.Deep.LoopGhost
import Derived.Deep.CutBlock
import Derived.Deep.DeepCutAuto
set_option linter.unusedVariables false
set_option linter.unusedSimpArgs false
namespace Go.Proofs.Yteodhnblbehenaa
open Go.RowKit Tcl
theorem bstr_of {z : ByteArray} {l : List UInt8} (h : z.data.toList = l) : z = bstr l := by subst h; rfl
theorem app_list (s t : ByteArray) : (s ++ t).data.toList = s.data.toList ++ t.data.toList := by
  rw [ByteArray.data_append, Array.toList_append]
theorem size_list (s : ByteArray) : s.size = s.data.toList.length := by rw [Array.length_toList]; rfl
theorem parse_small {s : List UInt8} {r : Except Bad (List Cmd)} (hs : s.length ≤ 16777216) (h : parseGo s 0 [] = r) : parse s = r := by unfold parse; rw [if_neg (by omega), h]
set_option maxRecDepth 100000 in
set_option maxHeartbeats 16000000 in
theorem tclDeep_walk (n : Int) (A : Option Addr) (l cap : Nat) (h1 : -9223372036854775808 ≤ n) (h2 : n ≤ 9223372036854775807) (hl : l ≤ 9223372036854775807) (w : World) :
    Calls Try.prog 5 #[.int .i64 n, .slice A l cap] w fun e w' => e = .returned (.bool true) ∧ Below w.heap.size w w' := by
  go_enter Try.func5, Try.ntmps5
  go_upto_region 2 with fail
  go_cut [5, 6] (fun v5 v6 wx => ∃ K : Nat, K < 100 ∧ v5 = .int .i64 K ∧ v6 = .string ByteArray.empty ∧ wx = w)
  case first =>
    go_wp2_with fail
    all_goals
      go_meet
      first
      | exact ⟨0, by omega, rfl, rfl, rfl⟩
      | exact ⟨(n % 100).toNat, by omega, by rw [Int.toNat_of_nonneg (by omega)], rfl, rfl⟩
  case rest =>
  obtain ⟨K, hK, rfl, rfl, rfl⟩ := hcut
  go_upto_region 3 with fail
  go_cut [16, 17] (fun v16 v17 wx => ∃ M : Nat, M ≤ 20 ∧ v16 = .int .i64 M ∧ v17 = .int .i64 0 ∧ wx = wc)
  case first =>
    go_wp2_with fail
    all_goals
      go_meet
      first
      | exact ⟨20, by omega, rfl, rfl, rfl⟩
      | exact ⟨l, by omega, rfl, rfl, rfl⟩
  case rest =>
  obtain ⟨M, hM, rfl, rfl, rfl⟩ := hcut
  go_wp2_with fail
  go_loopw [6, 17] (fun v6 vc wr => ∃ (j : Nat) (z : ByteArray), v6 = .string z ∧ vc = .int .i64 j ∧ j ≤ M ∧ z.size ≤ 0 + j ∧ Hid (z.data.toList = List.replicate j 32) ∧ wc = wr) (fun _ vc _ => M - (intOf vc).toNat)
  case atStart => exact ⟨0, _, rfl, rfl, by omega, by decide, (show _ = _ from rfl), rfl⟩
  case round =>
    obtain ⟨j, z, rfl, rfl, hj, hz, hZ, rfl⟩ := hrel
    by_cases hlt : j < M
    · have hnew : Hid ((z ++ ⟨#[32]⟩).data.toList = List.replicate (j + 1) 32) := by
        show _ = _
        rw [app_list, hZ.out, List.replicate_succ']; (try simp)
      have hnz : Hid ((z ++ ⟨#[32]⟩ : ByteArray).size ≤ 0 + (j + 1)) := by
        show _ ≤ _
        rw [ByteArray.size_append]; show z.size + 1 ≤ _; omega
      go_wp2_with fail
      go_roundw
      case rel => exact ⟨j + 1, _, rfl, by go_num, by omega, hnz.out, hnew, by first | trivial | rfl⟩
      case measure => simp [intOf]; omega
    · obtain rfl : M = j := by omega
      clear hlt
      have hz1 : z.size = M := by rw [size_list, hZ.out]; simp
      go_wp2_with fail
      go_loopw [6, 25] (fun v6 vc wr => ∃ (j : Nat) (z : ByteArray), v6 = .string z ∧ vc = .int .i64 j ∧ j ≤ K ∧ z.size ≤ M + j ∧ Hid (z.data.toList = List.replicate M 32 ++ List.replicate j 123) ∧ wc = wr) (fun _ vc _ => K - (intOf vc).toNat)
      case atStart => exact ⟨0, _, rfl, rfl, by omega, by omega, (show _ = _ by rw [hZ.out]; simp), rfl⟩
      case round =>
        obtain ⟨j, z, rfl, rfl, hj, hz, hZ, rfl⟩ := hrel
        by_cases hlt : j < K
        · have hnew : Hid ((z ++ ⟨#[123]⟩).data.toList = List.replicate M 32 ++ List.replicate (j + 1) 123) := by
            show _ = _
            rw [app_list, hZ.out, List.replicate_succ']; (try simp)
          have hnz : Hid ((z ++ ⟨#[123]⟩ : ByteArray).size ≤ M + (j + 1)) := by
            show _ ≤ _
            rw [ByteArray.size_append]; show z.size + 1 ≤ _; omega
          go_wp2_with fail
          go_roundw
          case rel => exact ⟨j + 1, _, rfl, by go_num, by omega, hnz.out, hnew, by first | trivial | rfl⟩
          case measure => simp [intOf]; omega
        · obtain rfl : K = j := by omega
          clear hlt
          go_wp2_with fail
          go_loopw [6, 31] (fun v6 vc wr => ∃ (j : Nat) (z : ByteArray), v6 = .string z ∧ vc = .int .i64 j ∧ j ≤ K ∧ z.size ≤ (M + K) + j ∧ Hid (z.data.toList = List.replicate M 32 ++ (List.replicate K 123 ++ List.replicate j 125)) ∧ wc = wr) (fun _ vc _ => K - (intOf vc).toNat)
          case atStart => exact ⟨0, _, rfl, rfl, by omega, by omega, (show _ = _ by rw [hZ.out]; simp), rfl⟩
          case round =>
            obtain ⟨j, z, rfl, rfl, hj, hz, hZ, rfl⟩ := hrel
            by_cases hlt : j < K
            · have hnew : Hid ((z ++ ⟨#[125]⟩).data.toList = List.replicate M 32 ++ (List.replicate K 123 ++ List.replicate (j + 1) 125)) := by
                show _ = _
                rw [app_list, hZ.out, List.replicate_succ']; (try simp)
              have hnz : Hid ((z ++ ⟨#[125]⟩ : ByteArray).size ≤ (M + K) + (j + 1)) := by
                show _ ≤ _
                rw [ByteArray.size_append]; show z.size + 1 ≤ _; omega
              go_wp2_with fail
              go_roundw
              case rel => exact ⟨j + 1, _, rfl, by go_num, by omega, hnz.out, hnew, by first | trivial | rfl⟩
              case measure => simp [intOf]; omega
            · obtain rfl : K = j := by omega
              clear hlt
              have hzb := bstr_of (l := deepS M K) hZ.out
              have hzs : (deepS M K).length ≤ 16777216 := by simp [deepS]; omega
              have hpar := Lib.hid (fun W => parse_any W (deepS M K) (by omega))
              subst hzb
              clear hZ hz
              obtain ⟨B, hB⟩ : ∃ B, bstr (deepS M K) = B := ⟨_, rfl⟩
              rw [hB] at hpar ⊢
              by_cases hk1 : 64 < K
              · have hr := parse_small hzs (deep_err M K hk1)
                go_wp2_with fail
                refine (hpar.out _).mono ?_
                rintro e w1 h5
                obtain ⟨hC1, rfl⟩ := parse_bad h5 hr
                replace hC1 := Lib.hid hC1
                clear h5
                go_wp2_with fail
                refine (alive_any _).mono ?_
                rintro e w2 ⟨rfl, hC2⟩
                replace hC2 := Lib.hid hC2
                go_wp2_with fail
                go_ret
                exact ⟨rfl, (hC1.out.trans hC2.out).below⟩
              by_cases hk0 : K = 0
              · subst hk0
                have hr := parse_small hzs (deep_none M)
                go_wp2_with fail
                refine (hpar.out _).mono ?_
                rintro e w1 h5
                obtain ⟨hC1, A1, n1, c1, xs, rfl, rfl, hS, hX, -⟩ := parse_ok h5 hr
                replace hC1 := Lib.hid hC1
                clear h5 hS hX
                go_wp2_with fail
                refine (alive_any _).mono ?_
                rintro e w2 ⟨rfl, hC2⟩
                replace hC2 := Lib.hid hC2
                go_wp2_with fail
                go_ret
                exact ⟨rfl, (hC1.out.trans hC2.out).below⟩
              · obtain ⟨ps, hps⟩ := deep_ok M K (by omega) (by omega)
                have hr := parse_small hzs hps
                go_wp2_with fail
                refine (hpar.out _).mono ?_
                rintro e w1 h5
                obtain ⟨hC1, A1, n1, c1, xs, rfl, rfl, hS, hX, -⟩ := parse_ok h5 hr
                obtain ⟨b, o, rfl, hc⟩ := cmds_at hS hX (by simp)
                obtain ⟨A2, c2, ys, q1, q2, hS1, hX1⟩ := hc 0 _ rfl
                obtain ⟨b1, o1, rfl, hc1⟩ := words_at hS1 hX1 (by simp)
                obtain ⟨A3, c3, -, q3, -, -⟩ := hc1 0 _ rfl
                replace hC1 := Lib.hid hC1
                clear h5 hS hX hc hS1 hX1 hc1
                simp only [List.length_cons, List.length_nil, Nat.zero_mul, Nat.zero_add, Nat.add_zero] at q1 q2 q3 ⊢
                go_wp2_with fail
                refine (alive_any _).mono ?_
                rintro e w2 ⟨rfl, hC2⟩
                replace q1 := hC2.cell q1 (by simp)
                replace q2 := hC2.cell q2 (by simp)
                replace q3 := hC2.cell q3 (by simp)
                replace hC2 := Lib.hid hC2
                go_wp2_with fail
                go_ret
                exact ⟨rfl, (hC1.out.trans hC2.out).below⟩
theorem i64_of_reads {w : World} {u : Value} {d : Dt} (h : Reads w (.int .i64) u d) : ∃ n : Int, u = .int .i64 n ∧ -9223372036854775808 ≤ n ∧ n ≤ 9223372036854775807 := by
  cases h with
  | int h =>
    rename_i n
    have h' : IntKind.i64.min ≤ n ∧ n ≤ IntKind.i64.max := by simpa [Lit.wf] using h
    have m1 : IntKind.i64.min = -9223372036854775808 := rfl
    have m2 : IntKind.i64.max = 9223372036854775807 := rfl
    rw [m1, m2] at h'
    exact ⟨n, rfl, h'⟩
theorem tclDeep_row (v0 : Value) (d0 : Dt) (v1 : Value) (d1 : Dt) (w : World) (h0 : Reads w (.int .i64) v0 d0) (h1 : Reads w (.sl [.int .u8]) v1 d1) :
    Calls Try.prog 5 #[v0, v1] w fun e w' => e = .returned (.bool true) ∧ Below w.heap.size w w' := by
  obtain ⟨n, rfl, b1, b2⟩ := i64_of_reads h0
  cases h1 with
  | sl U h0 h1 h2 hl hw hc hr => exact tclDeep_walk n _ _ _ b1 b2 (by unfold maxLen at h2; omega) w
end Go.Proofs.Yteodhnblbehenaa
