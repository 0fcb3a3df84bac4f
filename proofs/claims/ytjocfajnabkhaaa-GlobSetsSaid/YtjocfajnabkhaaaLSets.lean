/- The law GlobSets, walked. No condition. -/
import Derived.Test.YtjocfajnabkhaaaLMore
import Derived.Test.YtjocfajnabkhaaaReads
set_option linter.unusedVariables false
set_option linter.unusedSimpArgs false
namespace Go.Proofs.Ytjocfajnabkhaaa
open Go.RowKit Glob
theorem parse_set3 {lo hi : UInt8} (h1 : lo ≠ 93) (h2 : hi ≠ 93) : parse [91, lo, 45, hi, 93] = some [.set [lo, 45, hi]] := by
  have hf : (([lo, 45, hi, 93] : List UInt8).drop 1).findIdx? (· == 93) = some 2 := by
    simp [List.findIdx?_cons, h2]
  rw [parse_set_some _ 2 hf]
  rw [show ([lo, 45, hi, 93] : List UInt8).drop (2 + 2) = [] from rfl, parse_nil]; rfl
theorem parse_set2 {lo hi : UInt8} (h2 : hi ≠ 93) : parse [91, lo, hi, 93] = some [.set [lo, hi]] := by
  have hf : (([lo, hi, 93] : List UInt8).drop 1).findIdx? (· == 93) = some 1 := by
    simp [List.findIdx?_cons, h2]
  rw [parse_set_some _ 1 hf]
  rw [show ([lo, hi, 93] : List UInt8).drop (1 + 2) = [] from rfl, parse_nil]; rfl
theorem like_one (x : Th) (hx : x.isAny = false) (c : UInt8) : Like [x] [c] = x.has c := by
  rw [like_cons_cons hx, like_nil_nil, Bool.and_true]
theorem size_al (W : World) (o : Obj) : (W.alloc o).heap.size = W.heap.size + 1 := Array.size_push ..
theorem u8_ne2 {a b : UInt8} (h : a ≠ b) : ((a.toNat : Int) == (b.toNat : Int)) = false := by
  rw [beq_eq_false_iff_ne]; intro e; exact h (UInt8.toNat_inj.1 (by omega))
def bytesOf (l : List UInt8) : Array Value := (l.map fun c => Value.int .u8 c.toNat).toArray
theorem conv_run (l : List UInt8) (W : World) (B n : Nat) (hB : W.heap.size = B) (hn : l.length = n) (hm : n ≤ maxLen) (cs : Array Value) (hcs : cs = bytesOf l) :
    (convert 34 9 (.slice (some ⟨B, 0, none⟩) n n)).run Try.prog (W.alloc (.cells cs 5)) = .ok (.string ⟨l.toArray⟩) (W.alloc (.cells cs 5)) := by
  subst hB hcs
  have hx : (l.map fun c => Value.int .u8 c.toNat) = cellsOf .u8 (l.map fun c => (c.toNat : Int)) := by simp [cellsOf, Function.comp_def]
  have h := sl_new W (l.map fun c => Value.int .u8 c.toNat) 5 n (by simpa using hn) hm
  have e : strOfNums (l.map fun c => (c.toNat : Int)) = ⟨l.toArray⟩ := by
    have hid : ((fun n : Int => UInt8.ofNat n.toNat) ∘ fun c : UInt8 => (c.toNat : Int)) = id := by funext c; simp
    simp [strOfNums, hid]
  rw [← e]
  rw [hx] at h
  have := sl_string (P := Try.prog) h 34 5 9 Try.underlying34 Try.underlying5 Try.underlying9
  rw [← hx] at this
  exact this
set_option maxRecDepth 100000 in
set_option maxHeartbeats 4000000 in
theorem globSets_walk (lo hi c : UInt8) (t : ByteArray) (w1 : t.size ≤ maxLen) (w : World) :
    Calls Try.prog 4 #[.agg #[.int .u8 lo.toNat, .int .u8 hi.toNat, .int .u8 c.toNat], .string t] w fun e w' => e = .returned (.bool true) ∧ Below w.heap.size w w' := by
  by_cases h1 : lo = 93
  · subst h1
    go_enter Try.func4, Try.ntmps4
    go_wp2_with fail
    go_quiet (fail)
    go_wp2_with fail
    refine (alive_any _).mono ?_
    rintro e w5 ⟨rfl, hC2⟩
    go_wp2_with fail
    go_ret
    exact ⟨rfl, ((((Chg.refl [] w).alloc _).drewN nq).trans hC2).below⟩
  have e1 : ((lo.toNat : Int) == 93) = false := u8_ne h1
  by_cases h2 : hi = 93
  · subst h2
    clear h1
    go_enter Try.func4, Try.ntmps4
    go_wp2_with fail
    go_quiet (fail)
    go_wp2_with fail
    refine (alive_any _).mono ?_
    rintro e w5 ⟨rfl, hC2⟩
    go_wp2_with fail
    go_ret
    exact ⟨rfl, ((((Chg.refl [] w).alloc _).drewN nq).trans hC2).below⟩
  have e2 : ((hi.toNat : Int) == 93) = false := u8_ne h2
  by_cases h3 : lo = 92
  · subst h3
    clear h1 h2 e1
    go_enter Try.func4, Try.ntmps4
    go_wp2_with fail
    go_quiet (fail)
    go_wp2_with fail
    refine (alive_any _).mono ?_
    rintro e w5 ⟨rfl, hC2⟩
    go_wp2_with fail
    go_ret
    exact ⟨rfl, ((((Chg.refl [] w).alloc _).drewN nq).trans hC2).below⟩
  have e3 : ((lo.toNat : Int) == 92) = false := u8_ne h3
  replace h1 := Lib.hid h1
  replace h2 := Lib.hid h2
  clear h3
  go_enter Try.func4, Try.ntmps4
  go_wp2_with fail
  go_quiet (fail)
  go_wp2_with fail
  have hC0 := Lib.hid (((((Chg.refl [] w).alloc (.cells #[.int .u8 lo.toNat, .int .u8 hi.toNat, .int .u8 c.toNat] 33)).drewN nq).alloc (.cells #[.int .u8 c.toNat] 5)).alloc (.cells #[.int .u8 lo.toNat, .int .u8 45, .int .u8 hi.toNat] 5))
  rw [conv_run (l := [c]) (n := 1) (cs := #[.int .u8 c.toNat]) (hn := rfl) (hm := by decide) (hcs := rfl)]
  rotate_left
  · first | rfl | exact size_al _ _ | exact (size_al _ _).trans (congrArg (· + 1) (size_al _ _))
  simp only [Result.andThen]
  rw [Oper.upon_value]
  go_wp2_with fail
  rw [conv_run (l := [lo, 45, hi]) (n := 3) (cs := #[.int .u8 lo.toNat, .int .u8 45, .int .u8 hi.toNat]) (hn := rfl) (hm := by decide) (hcs := rfl)]
  rotate_left
  · first | rfl | exact size_al _ _ | exact (size_al _ _).trans (congrArg (· + 1) (size_al _ _))
  simp only [Result.andThen]
  rw [Oper.upon_value]
  go_wp2_with fail
  obtain ⟨b, hb⟩ : ∃ b, Like [.set [lo, 45, hi]] [c] = b := ⟨_, rfl⟩
  obtain ⟨d, hd⟩ : ∃ d, Like [.set [lo, hi]] [c] = d := ⟨_, rfl⟩
  have hb' : b = (decide (lo.toNat ≤ c.toNat) && decide (c.toNat ≤ hi.toNat)) := by
    rw [← hb, like_one _ rfl]; show setHas [lo, 45, hi] c = _
    rw [setHas_range]; simp [setHas, UInt8.le_iff_toNat_le]
  have hd' : d = ((lo == c) || (hi == c)) := by
    rw [← hd, like_one _ rfl]; rfl
  replace hb := Lib.hid hb
  replace hd := Lib.hid hd
  replace hb' := Lib.hid hb'
  replace hd' := Lib.hid hd'
  refine (match_is _ _ [91, lo, 45, hi, 93] [c] _ rfl rfl (by simp) (by simp) (parse_set3 h1.out h2.out) b hb.out _).mono ?_
  rintro e w5 ⟨rfl, hD1⟩
  replace hC0 := Lib.hid (hC0.out.trans hD1.out)
  clear hD1
  go_wp2_with fail
  refine (match_is _ _ [63] [c] _ rfl rfl (by simp) (by simp) parse_one1 true (by rw [like_one _ rfl]; rfl) _).mono ?_
  rintro e w6 ⟨rfl, hD1⟩
  replace hC0 := Lib.hid (hC0.out.trans hD1.out)
  clear hD1
  go_wp2_with fail
  refine (match_is _ t [42] t.data.toList _ rfl rfl (by simp) (by rw [← size_list]; exact w1) parse_any1 true (like_all _) _).mono ?_
  rintro e w7 ⟨rfl, hD1⟩
  replace hC0 := Lib.hid ((hC0.out.trans hD1.out).alloc (.cells #[.int .u8 lo.toNat, .int .u8 hi.toNat] 5))
  clear hD1
  go_wp2_with fail
  rw [conv_run (l := [lo, hi]) (n := 2) (cs := #[.int .u8 lo.toNat, .int .u8 hi.toNat]) (hn := rfl) (hm := by decide) (hcs := rfl)]
  rotate_left
  · first | rfl | exact size_al _ _ | exact (size_al _ _).trans (congrArg (· + 1) (size_al _ _))
  simp only [Result.andThen]
  rw [Oper.upon_value]
  go_wp2_with fail
  refine (match_is _ _ [91, lo, hi, 93] [c] _ rfl rfl (by simp) (by simp) (parse_set2 h2.out) d hd.out _).mono ?_
  rintro e w8 ⟨rfl, hD1⟩
  replace hC0 := Lib.hid (hC0.out.trans hD1.out)
  clear hD1 hb hd h1 h2
  have hlo : (lo.toNat : Int) ≤ c.toNat ∨ (c.toNat : Int) < lo.toNat := by omega
  have hhi : (c.toNat : Int) ≤ hi.toNat ∨ (hi.toNat : Int) < c.toNat := by omega
  rcases hlo with hlo | hlo <;> rcases hhi with hhi | hhi
  · obtain rfl : b = true := by rw [hb'.out]; simp; omega
    clear hb'
    go_wp2_with fail
    refine (alive_any _).mono ?_
    rintro e w9 ⟨rfl, hD1⟩
    replace hC0 := Lib.hid (hC0.out.trans hD1)
    clear hD1
    by_cases q1 : c = lo
    · have hdt : d = true := by rw [hd'.out, q1]; simp
      subst q1 hdt
      go_wp2_with fail
      go_ret
      exact ⟨rfl, hC0.out.below⟩
    · have f1 := u8_ne2 q1
      by_cases q2 : c = hi
      · have hdt : d = true := by rw [hd'.out, q2]; simp
        subst q2 hdt
        go_wp2_with fail
        go_ret
        exact ⟨rfl, hC0.out.below⟩
      · have f2 := u8_ne2 q2
        have hdt : d = false := by rw [hd'.out]; simp; exact ⟨fun e => q1 e.symm, fun e => q2 e.symm⟩
        subst hdt
        clear q1 q2
        go_wp2_with fail
        go_ret
        exact ⟨rfl, hC0.out.below⟩
  · obtain rfl : b = false := by rw [hb'.out]; simp; omega
    clear hb'
    go_wp2_with fail
    refine (alive_any _).mono ?_
    rintro e w9 ⟨rfl, hD1⟩
    replace hC0 := Lib.hid (hC0.out.trans hD1)
    clear hD1
    by_cases q1 : c = lo
    · have hdt : d = true := by rw [hd'.out, q1]; simp
      subst q1 hdt
      go_wp2_with fail
      go_ret
      exact ⟨rfl, hC0.out.below⟩
    · have f1 := u8_ne2 q1
      by_cases q2 : c = hi
      · have hdt : d = true := by rw [hd'.out, q2]; simp
        subst q2 hdt
        go_wp2_with fail
        go_ret
        exact ⟨rfl, hC0.out.below⟩
      · have f2 := u8_ne2 q2
        have hdt : d = false := by rw [hd'.out]; simp; exact ⟨fun e => q1 e.symm, fun e => q2 e.symm⟩
        subst hdt
        clear q1 q2
        go_wp2_with fail
        go_ret
        exact ⟨rfl, hC0.out.below⟩
  · obtain rfl : b = false := by rw [hb'.out]; simp; omega
    clear hb'
    go_wp2_with fail
    refine (alive_any _).mono ?_
    rintro e w9 ⟨rfl, hD1⟩
    replace hC0 := Lib.hid (hC0.out.trans hD1)
    clear hD1
    by_cases q1 : c = lo
    · have hdt : d = true := by rw [hd'.out, q1]; simp
      subst q1 hdt
      go_wp2_with fail
      go_ret
      exact ⟨rfl, hC0.out.below⟩
    · have f1 := u8_ne2 q1
      by_cases q2 : c = hi
      · have hdt : d = true := by rw [hd'.out, q2]; simp
        subst q2 hdt
        go_wp2_with fail
        go_ret
        exact ⟨rfl, hC0.out.below⟩
      · have f2 := u8_ne2 q2
        have hdt : d = false := by rw [hd'.out]; simp; exact ⟨fun e => q1 e.symm, fun e => q2 e.symm⟩
        subst hdt
        clear q1 q2
        go_wp2_with fail
        go_ret
        exact ⟨rfl, hC0.out.below⟩
  · obtain rfl : b = false := by rw [hb'.out]; simp; omega
    clear hb'
    go_wp2_with fail
    refine (alive_any _).mono ?_
    rintro e w9 ⟨rfl, hD1⟩
    replace hC0 := Lib.hid (hC0.out.trans hD1)
    clear hD1
    by_cases q1 : c = lo
    · have hdt : d = true := by rw [hd'.out, q1]; simp
      subst q1 hdt
      go_wp2_with fail
      go_ret
      exact ⟨rfl, hC0.out.below⟩
    · have f1 := u8_ne2 q1
      by_cases q2 : c = hi
      · have hdt : d = true := by rw [hd'.out, q2]; simp
        subst q2 hdt
        go_wp2_with fail
        go_ret
        exact ⟨rfl, hC0.out.below⟩
      · have f2 := u8_ne2 q2
        have hdt : d = false := by rw [hd'.out]; simp; exact ⟨fun e => q1 e.symm, fun e => q2 e.symm⟩
        subst hdt
        clear q1 q2
        go_wp2_with fail
        go_ret
        exact ⟨rfl, hC0.out.below⟩
theorem u8_of_reads {w : World} {u : Value} {d : Dt} (h : Reads w (.int .u8) u d) : ∃ c : UInt8, u = .int .u8 c.toNat := by
  cases h with
  | int h =>
    rename_i n
    have hb : 0 ≤ n ∧ n ≤ 255 := by
      have h' : IntKind.u8.min ≤ n ∧ n ≤ IntKind.u8.max := by simpa [Lit.wf] using h
      have m1 : IntKind.u8.min = 0 := rfl
      have m2 : IntKind.u8.max = 255 := rfl
      rw [m1, m2] at h'
      exact h'
    refine ⟨UInt8.ofNat n.toNat, ?_⟩
    have : (UInt8.ofNat n.toNat).toNat = n.toNat % 256 := rfl
    rw [this]
    congr 1
    omega
theorem globSets_row (a0 : Array Value) (v1 : Value) (d1 : Dt) (w : World) (r0 : a0.size = 3 ∧ ∀ (i : Nat) (u : Value), a0[i]? = some u → ∃ d, Reads w (.int .u8) u d) (h1 : Reads w .str v1 d1) :
    Calls Try.prog 4 #[.agg a0, v1] w fun e w' => e = .returned (.bool true) ∧ Below w.heap.size w w' := by
  obtain ⟨hs, hr⟩ := r0
  obtain ⟨l⟩ := a0
  match l, hs with
  | [u0, u1, u2], _ =>
    obtain ⟨e0, g0⟩ := hr 0 u0 rfl
    obtain ⟨e1, g1⟩ := hr 1 u1 rfl
    obtain ⟨e2, g2⟩ := hr 2 u2 rfl
    obtain ⟨x0, rfl⟩ := u8_of_reads g0
    obtain ⟨x1, rfl⟩ := u8_of_reads g1
    obtain ⟨x2, rfl⟩ := u8_of_reads g2
    cases h1 with
    | str hm => exact globSets_walk x0 x1 x2 _ hm w
end Go.Proofs.Ytjocfajnabkhaaa
