/- Contracts of what package tcl's printer calls: Plain, Octal, names, whole, text. Conditions: as they state. -/
import Derived.Test.YteodhnblbehenaaTclBuild
import Derived.Test.YteodhnblbehenaaTclPrK
import Derived.Test.YteodhnblbehenaaTclBr
import Derived.Deep.Cut
import Derived.Deep.CutBlock
import Derived.Deep.DeepCutAuto
set_option linter.unusedVariables false
set_option linter.unusedSimpArgs false
namespace Go.Proofs.Yteodhnblbehenaa
open Go.RowKit Tcl
theorem plain_bytes : ∀ x : Fin 256, plainB (UInt8.ofNat x.val) = (decide (32 ≤ x.val) && decide (x.val ≤ 126) && !((⟨#[34, 35, 36, 59, 91, 92, 93, 123, 125]⟩ : ByteArray).data.toList.any (· == UInt8.ofNat x.val))) := by decide +kernel
theorem plain_b (c : UInt8) : plainB c = (decide (32 ≤ c.toNat) && decide (c.toNat ≤ 126) && !((⟨#[34, 35, 36, 59, 91, 92, 93, 123, 125]⟩ : ByteArray).data.toList.any (· == c))) := by
  have := plain_bytes ⟨c.toNat, c.toNat_lt⟩
  simp only [UInt8.ofNat_toNat] at this
  exact this
set_option maxRecDepth 100000 in
set_option maxHeartbeats 4000000 in
theorem plain_any (c : UInt8) (b : Bool) (hb : plainB c = b) (w : World) : Calls Try.prog 60 #[.int .u8 c.toNat] w fun e w' => e = .returned (.bool b) ∧ w = w' := by
  have hi := index_any ⟨#[34, 35, 36, 59, 91, 92, 93, 123, 125]⟩ (c.toNat : Int)
  have hh := index_has ((⟨#[34, 35, 36, 59, 91, 92, 93, 123, 125]⟩ : ByteArray).data.toList) c
  rw [plain_b, ← hh] at hb
  have ec : ((c.toNat : Int)).toNat.toUInt8 = c := by rw [Int.toNat_natCast]; exact UInt8.ofNat_toNat
  rw [ec] at hi
  clear hh ec
  obtain ⟨v, hv⟩ : ∃ v, Lib.indexByte ((⟨#[34, 35, 36, 59, 91, 92, 93, 123, 125]⟩ : ByteArray).data.toList) c = v := ⟨_, rfl⟩
  rw [hv] at hi hb
  clear hv
  replace hi := Lib.hid hi
  by_cases h1 : 32 ≤ c.toNat
  · have d1 : decide ((c.toNat : Int) ≥ 32) = true := by simp; omega
    by_cases h2 : c.toNat ≤ 126
    · have d2 : decide ((c.toNat : Int) ≤ 126) = true := by simp; omega
      have hb2 : b = decide (v < 0) := by
        rw [← hb, decide_eq_true h1, decide_eq_true h2]
        by_cases h : 0 ≤ v
        · have : ¬ v < 0 := by omega
          simp [h, this]
        · have : v < 0 := by omega
          simp [h, this]
      subst hb2
      clear hb
      go_enter Try.func60, Try.ntmps60
      go_wp2_with fail
      refine (hi.out _).mono ?_
      rintro e w' ⟨rfl, rfl⟩
      go_wp2_with fail
      go_ret
      exact ⟨rfl, rfl⟩
    · have d2 : decide ((c.toNat : Int) ≤ 126) = false := by simp; omega
      have hb2 : b = false := by rw [← hb, decide_eq_false h2]; simp
      subst hb2
      clear hb hi
      go_enter Try.func60, Try.ntmps60
      go_wp2_with fail
      go_ret
      exact ⟨rfl, rfl⟩
  · have d1 : decide ((c.toNat : Int) ≥ 32) = false := by simp; omega
    have hb2 : b = false := by rw [← hb, decide_eq_false h1]; simp
    subst hb2
    clear hb hi
    go_enter Try.func60, Try.ntmps60
    go_wp2_with fail
    go_ret
    exact ⟨rfl, rfl⟩
theorem oct_ints : ∀ x : Fin 256, (48 + (x.val : Int) / 64) % 256 = ((48 + UInt8.ofNat x.val / 64).toNat : Int) ∧ (48 + bits BinOp.and IntKind.u8 ((x.val : Int) / 8) 7) % 256 = ((48 + UInt8.ofNat x.val / 8 % 8).toNat : Int) ∧ (48 + bits BinOp.and IntKind.u8 (x.val : Int) 7) % 256 = ((48 + UInt8.ofNat x.val % 8).toNat : Int) := by decide +kernel
theorem oct_int (c : UInt8) : (48 + (c.toNat : Int) / 64) % 256 = ((48 + c / 64).toNat : Int) ∧ (48 + bits BinOp.and IntKind.u8 ((c.toNat : Int) / 8) 7) % 256 = ((48 + c / 8 % 8).toNat : Int) ∧ (48 + bits BinOp.and IntKind.u8 (c.toNat : Int) 7) % 256 = ((48 + c % 8).toNat : Int) := by
  have := oct_ints ⟨c.toNat, c.toNat_lt⟩
  simp only [UInt8.ofNat_toNat] at this
  exact this
set_option maxRecDepth 100000 in
set_option maxHeartbeats 4000000 in
theorem octal_any (c : UInt8) (w : World) : Calls Try.prog 61 #[.int .u8 c.toNat] w fun e w' => e = .returned (.string (bstr (octB c))) ∧ Chg [] w w' := by
  obtain ⟨e1, e2, e3⟩ := oct_int c
  have hcv : (convert 35 9 (.slice (some ⟨w.heap.size, 0, none⟩) 4 4)).run Try.prog (w.alloc (.cells #[.int .u8 92, .int .u8 ((48 + c / 64).toNat : Int), .int .u8 ((48 + c / 8 % 8).toNat : Int), .int .u8 ((48 + c % 8).toNat : Int)] 5)) = .ok (.string (bstr (octB c))) (w.alloc (.cells #[.int .u8 92, .int .u8 ((48 + c / 64).toNat : Int), .int .u8 ((48 + c / 8 % 8).toNat : Int), .int .u8 ((48 + c % 8).toNat : Int)] 5)) := by
    have := sl_string (P := Try.prog) (show Sl (w.alloc (.cells #[.int .u8 92, .int .u8 ((48 + c / 64).toNat : Int), .int .u8 ((48 + c / 8 % 8).toNat : Int), .int .u8 ((48 + c % 8).toNat : Int)] 5)) 1 (.slice (some ⟨w.heap.size, 0, none⟩) 4 4) 4 (cellsOf .u8 (nums (octB c))) from sl_new w [.int .u8 92, .int .u8 ((48 + c / 64).toNat : Int), .int .u8 ((48 + c / 8 % 8).toNat : Int), .int .u8 ((48 + c % 8).toNat : Int)] 5 4 rfl (by decide)) 35 5 9 Try.underlying35 Try.underlying5 Try.underlying9
    rwa [str_nums] at this
  rw [← e1, ← e2, ← e3] at hcv
  clear e1 e2 e3
  go_enter Try.func61, Try.ntmps61
  go_wp2_with fail
  go_ret
  exact ⟨rfl, (Chg.refl [] w).alloc _⟩
/-- strings.IndexFunc at 'no name's byte'. -/
theorem indexFunc_w (s : ByteArray) (hs : s.size ≤ 9223372036854775807) (w : World) :
    Calls Try.prog 59 #[.string s, .func (.func 47) #[] #[], .bool true] w fun e w' => e = .returned (.int .i64 (idxFrom (fun r => !nameR r) s s.size 0)) ∧ Below w.heap.size w w' := by
  have hp : ∀ (W : World) (r : Nat), r < 2147483648 → Calls Try.prog 47 #[.int .i32 r] W fun e w' => e = .returned (.bool (!nameR r)) ∧ W = w' := fun W r hr => by
    have hn := Lib.hid (fun w => names_any r hr w)
    go_enter Try.func47, Try.ntmps47
    go_wp2_with fail
    refine (hn.out _).mono ?_
    rintro e w' ⟨rfl, rfl⟩
    go_wp2
    go_ret
    exact ⟨rfl, rfl⟩
  replace hp := Lib.hid hp
  go_enter Try.func59, Try.ntmps59
  go_wp2
  go_loopg [] s.size (fun gf wx => ∃ pos : Nat, wx.heap[w.heap.size]? = some (.stringIter s pos) ∧ Below w.heap.size w wx ∧ Hid (idxFrom (fun r => !nameR r) s gf pos = idxFrom (fun r => !nameR r) s s.size 0) ∧ s.size ≤ pos + gf)
  case atStart => exact ⟨0, World.iter_heap w s 0, (Below.refl _ w).alloc (Nat.le_refl _) _, rfl, by omega⟩
  case round =>
    obtain ⟨pos, hit, hbw, hleft, hfu⟩ := hrel
    by_cases hps : pos < s.size
    · obtain ⟨g', rfl⟩ : ∃ g', gk = g' + 1 := ⟨gk - 1, by omega⟩
      have hnx : ∀ ty, (Instr.next (.pointer (some ⟨w.heap.size, 0, none⟩)) true ty).run Try.prog wr = _ := fun ty => Lib.run_next_any_at wr w.heap.size s pos ty hit hps
      have hwd := width_pos s pos
      have hrl := decode_lt s pos
      obtain ⟨R, hR⟩ : ∃ R, (Utf8.decode s pos).1 = R := ⟨_, rfl⟩
      obtain ⟨K, hK⟩ : ∃ K, (Utf8.decode s pos).2 = K := ⟨_, rfl⟩
      have hl := hleft.out
      simp only [idxFrom, hps, if_true, hR, hK] at hl
      rw [hR, hK] at hnx
      rw [hK] at hwd
      rw [hR] at hrl
      have hit2 := Lib.iterAt_heap wr w.heap.size s pos (pos + K) hit
      have hbw2 := Lib.below_iterAt hbw (k := w.heap.size) (Nat.le_refl _) s (pos + K)
      obtain ⟨W, hWd⟩ : ∃ W, wr.iterAt w.heap.size s (pos + K) = W := ⟨_, rfl⟩
      rw [hWd] at hnx hit2 hbw2
      have cS := hp.out W R hrl
      clear hp hleft
      cases hsp : nameR R <;> rw [hsp] at cS <;> simp only [hsp, Bool.not_true, Bool.not_false, if_true, Bool.false_eq_true, if_false] at hl cS
      · replace hl := Lib.hid hl
        replace cS := Lib.hid cS
        go_wp2_with fail
        refine cS.out.mono ?_
        rintro e W' ⟨rfl, rfl⟩
        go_wp2
        go_ret
        exact ⟨by rw [← hl.out]; rfl, hbw2⟩
      · replace hl := Lib.hid hl
        replace cS := Lib.hid cS
        go_wp2_with fail
        refine cS.out.mono ?_
        rintro e W' ⟨rfl, rfl⟩
        go_wp2
        go_roundg g'
        case measure => omega
        case rel => exact ⟨pos + K, hit2, hbw2, hl, by omega⟩
    · have hnx : ∀ ty, (Instr.next (.pointer (some ⟨w.heap.size, 0, none⟩)) true ty).run Try.prog wr = _ := fun ty => Lib.run_next_end_at wr w.heap.size s pos ty hit hps
      have hl := hleft.out
      rw [idxFrom_end _ s gk pos hps] at hl
      replace hl := Lib.hid hl
      clear hleft hp
      go_wp2
      go_ret
      exact ⟨by rw [← hl.out]; rfl, hbw⟩
theorem IndexFunc_w (s : ByteArray) (hs : s.size ≤ 9223372036854775807) (w : World) :
    Calls Try.prog 46 #[.string s, .func (.func 47) #[] #[]] w fun e w' => e = .returned (.int .i64 (if nameLen s.data.toList = s.size then -1 else (nameLen s.data.toList : Int))) ∧ Chg [] w w' := by
  have h := indexFunc_w s hs w
  rw [idx_name] at h
  generalize (if nameLen s.data.toList = s.size then (-1 : Int) else (nameLen s.data.toList : Int)) = z at h ⊢
  replace h := Lib.hid h
  go_enter Try.func46, Try.ntmps46
  go_wp2_with fail
  refine h.out.mono ?_
  rintro e w' ⟨rfl, hb⟩
  go_wp2
  go_ret
  exact ⟨rfl, Chg.of_below hb⟩


theorem nameLen_full (l : List UInt8) : (nameLen l = l.length) ↔ l.all nameB = true := by
  induction l with
  | nil => simp [nameLen]
  | cons c l ih =>
    rw [nameLen]
    by_cases h : nameB c = true
    · rw [if_pos h]; simp [h, ih]
    · rw [if_neg h]; simp [h]
/-- Is there another byte than a name's? -/
theorem other_any (s : ByteArray) (hs : s.size ≤ 9223372036854775807) (w : World) : Calls Try.prog 46 #[.string s, .func (.func 47) #[] #[]] w fun e w' => (∃ v : Int, e = .returned (.int .i64 v) ∧ decide (v ≥ 0) = !(s.data.toList.all nameB)) ∧ Chg [] w w' := by
  refine (IndexFunc_w s hs w).mono ?_
  rintro e w' ⟨rfl, hC⟩
  refine ⟨⟨_, rfl, ?_⟩, hC⟩
  have h := nameLen_full s.data.toList
  have hsz : s.data.toList.length = s.size := by rw [Array.length_toList]; rfl
  rw [hsz] at h
  by_cases ha : s.data.toList.all nameB = true
  · rw [if_pos (h.2 ha), ha]; rfl
  · rw [if_neg (fun e => ha (h.1 e))]
    have : s.data.toList.all nameB = false := by simpa using ha
    rw [this]; simp
set_option maxRecDepth 100000 in
set_option maxHeartbeats 4000000 in
theorem whole_any (u : List UInt8) (hu : u.length ≤ 16777000) (w : World) : Calls Try.prog 49 #[.string (bstr u)] w fun e w' => e = .returned (.bool (wholeB u)) ∧ Chg [] w w' := by
  have hB : (⟨#[123]⟩ : ByteArray) ++ bstr u ++ (⟨#[125]⟩ : ByteArray) = bstr (123 :: (u ++ [125])) := by
    apply ByteArray.ext
    apply Array.ext'
    simp [bstr]
  have hsz : (bstr u).size = u.length := rfl
  have hbr := fun W h => braced_any W w.heap.size (123 :: (u ++ [125])) 0 0 (by simp; omega) rfl h
  unfold BrEnd at hbr
  rw [← hB] at hbr
  have hsz2 : ((⟨#[123]⟩ : ByteArray) ++ bstr u ++ (⟨#[125]⟩ : ByteArray)).size = u.length + 2 := by rw [hB]; show (123 :: (u ++ [125])).length = _; simp
  have hP : PS (w.alloc (.cells #[.string ((⟨#[123]⟩ : ByteArray) ++ bstr u ++ (⟨#[125]⟩ : ByteArray)), .int .i64 0, .int .i64 0, .int .i64 0] 55)) w.heap.size ((⟨#[123]⟩ : ByteArray) ++ bstr u ++ (⟨#[125]⟩ : ByteArray)) (0 : Nat) 0 0 := blk_new _ _
  obtain ⟨B, hBu⟩ : ∃ B, bstr u = B := ⟨_, rfl⟩
  rw [hBu] at hbr hsz hsz2 hP ⊢
  have hb1 : ¬ (9223372036854775807 < (⟨#[123]⟩ : ByteArray).size + B.size) := by rw [hsz]; show ¬ (_ < 1 + _); omega
  have hb2 : ¬ (9223372036854775807 < ((⟨#[123]⟩ : ByteArray) ++ B).size + (⟨#[125]⟩ : ByteArray).size) := by
    rw [ByteArray.size_append, hsz]; show ¬ (_ < 1 + _ + 1); omega
  replace hbr := Lib.hid hbr
  replace hP := Lib.hid hP
  obtain ⟨b, hb⟩ : ∃ b, wholeB u = b := ⟨_, rfl⟩
  rw [hb]
  have hw := Lib.hid (hb.symm.trans (show wholeB u = (match braced (123 :: (u ++ [125])) 0 0 0 with | .ok j => j == u.length + 2 | .error _ => false) from rfl))
  clear hB hBu hb
  have hC0 := (Chg.refl [] w).alloc (.cells #[.string ((⟨#[123]⟩ : ByteArray) ++ B ++ (⟨#[125]⟩ : ByteArray)), .int .i64 0, .int .i64 0, .int .i64 0] 55)
  replace hC0 := Lib.hid hC0
  generalize hBB : (⟨#[123]⟩ : ByteArray) ++ B ++ (⟨#[125]⟩ : ByteArray) = BB at hsz2 hbr hP hC0
  go_enter Try.func49, Try.ntmps49
  go_upto_region 2 with fail
  clear hb1 hb2 hBB
  obtain ⟨g, hg⟩ : ∃ g, w.heap.size = g := ⟨_, rfl⟩
  rw [hg] at hbr hP
  generalize w.alloc (.cells #[.string BB, .int .i64 0, .int .i64 0, .int .i64 0] 55) = w1 at hP hC0 ⊢
  go_wp2_with fail
  refine (hbr.out _ hP.out).mono ?_
  rintro e w2 ⟨v, rfl, hC2, hcase⟩
  have hC3 := Lib.hid (hC0.out.then hC2 (fun q hq => .inr (by simp at hq; omega)))
  clear hbr hC2 hC0 hP
  rcases hcase with ⟨j, hj, hP, -, -⟩ | ⟨p, c, hj, hP, -, hc0⟩
  · rw [hj] at hw
    have hw2 := hw.out
    simp only at hw2
    obtain ⟨c0, c1, c2, c3⟩ := hP.c0
    replace hP := Lib.hid hP
    by_cases hjl : j = u.length + 2
    · have e1 : ((j : Int) == (BB.size : Int)) = true := by rw [hsz2]; simp [hjl]
      replace hw2 := Lib.hid (hw2.trans (show (j == u.length + 2) = true by simpa using hjl))
      replace hjl := Lib.hid hjl
      replace hsz2 := Lib.hid hsz2
      clear hw
      go_wp2_with fail
      go_quiet (fail)
      go_wp2_with fail
      go_ret
      exact ⟨by rw [hw2.out]; rfl, hC3.out.drewN _⟩
    · have e1 : ((j : Int) == (BB.size : Int)) = false := by rw [hsz2, beq_eq_false_iff_ne]; omega
      replace hw2 := Lib.hid (hw2.trans (show (j == u.length + 2) = false by simpa using hjl))
      replace hjl := Lib.hid hjl
      replace hsz2 := Lib.hid hsz2
      clear hw
      go_wp2_with fail
      go_quiet (fail)
      go_wp2_with fail
      go_ret
      exact ⟨by rw [hw2.out]; rfl, hC3.out.drewN _⟩
  · rw [hj] at hw
    have hw2 := hw.out
    simp only at hw2
    obtain ⟨c0, c1, c2, c3⟩ := hP.c0
    have e1 : ((c : Int) == 0) = false := by rw [beq_eq_false_iff_ne]; omega
    replace hP := Lib.hid hP
    replace hw2 := Lib.hid hw2
    clear hw
    go_wp2_with fail
    go_quiet (fail)
    go_wp2_with fail
    go_ret
    exact ⟨by rw [hw2.out]; rfl, hC3.out.drewN _⟩
end Go.Proofs.Yteodhnblbehenaa
