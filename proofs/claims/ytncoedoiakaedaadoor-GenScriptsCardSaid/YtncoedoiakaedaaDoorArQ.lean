/- The reference of layer 11: Plain, Octal, Quote. Conditions: as they state. -/
import Derived.Test.YtncoedoiakaedaaDoorTclPrK
import Derived.Test.YtncoedoiakaedaaDoorTclFlush
import Derived.Test.YtncoedoiakaedaaDoorTclBr
import Derived.Test.YtncoedoiakaedaaDoorTclU8
import Derived.Deep.LoopGhost
import Derived.Deep.CutBlock
import Derived.Deep.DeepCutAuto
import Derived.Lib.ConvBytes
set_option linter.unusedVariables false
set_option linter.unusedSimpArgs false
namespace Go.Proofs.YtncoedoiakaedaaDoor
open Go.RowKit Tcl
namespace Ar
theorem plain_bytes2 : ∀ x : Fin 256, plainB (UInt8.ofNat x.val) = (decide (32 ≤ x.val) && decide (x.val ≤ 126) && !((⟨#[34, 35, 36, 59, 91, 92, 93, 123, 125]⟩ : ByteArray).data.toList.any (· == UInt8.ofNat x.val))) := by decide +kernel
theorem plain_b2 (c : UInt8) : plainB c = (decide (32 ≤ c.toNat) && decide (c.toNat ≤ 126) && !((⟨#[34, 35, 36, 59, 91, 92, 93, 123, 125]⟩ : ByteArray).data.toList.any (· == c))) := by
  have := plain_bytes2 ⟨c.toNat, c.toNat_lt⟩
  simp only [UInt8.ofNat_toNat] at this
  exact this
set_option maxRecDepth 100000 in
set_option maxHeartbeats 8000000 in
theorem qplain_any (c : UInt8) (b : Bool) (hb : plainB c = b) (w : World) : Calls Tryd.prog 47 #[.int .u8 c.toNat] w fun e w' => e = .returned (.bool b) ∧ w' = w := by
  have hp := plain_b2 c
  rw [hb] at hp
  by_cases h1 : c.toNat < 32
  · have d1 : decide ((c.toNat : Int) < 32) = true := by simp; omega
    obtain rfl : b = false := by rw [hp, decide_eq_false (by omega)]; simp
    clear hp hb
    go_enter Tryd.func47, Tryd.ntmps47
    go_wp2_with fail
    go_ret
    exact ⟨rfl, rfl⟩
  have d1 : decide ((c.toNat : Int) < 32) = false := by simp; omega
  by_cases h2 : 126 < c.toNat
  · have d2 : decide ((c.toNat : Int) > 126) = true := by simp; omega
    obtain rfl : b = false := by rw [hp, decide_eq_false (show ¬ c.toNat ≤ 126 by omega)]; simp
    clear hp hb
    go_enter Tryd.func47, Tryd.ntmps47
    go_wp2_with fail
    go_ret
    exact ⟨rfl, rfl⟩
  have d2 : decide ((c.toNat : Int) > 126) = false := by simp; omega
  replace hp := Lib.hid hp
  replace hb := Lib.hid hb
  by_cases h34 : c = 34
  · subst h34
    obtain rfl : b = false := by rw [← hb.out]; rfl
    clear hp hb d1 d2 h1 h2
    go_enter Tryd.func47, Tryd.ntmps47
    go_wp2_with fail
    go_ret
    exact ⟨rfl, rfl⟩
  have n34 : ((c.toNat : Int) != 34) = true := by simp only [bne]; rw [show ((c.toNat : Int) == 34) = false from u8n (n := 34) h34]; rfl
  by_cases h35 : c = 35
  · subst h35
    obtain rfl : b = false := by rw [← hb.out]; rfl
    clear hp hb d1 d2 h1 h2
    go_enter Tryd.func47, Tryd.ntmps47
    go_wp2_with fail
    go_ret
    exact ⟨rfl, rfl⟩
  have n35 : ((c.toNat : Int) != 35) = true := by simp only [bne]; rw [show ((c.toNat : Int) == 35) = false from u8n (n := 35) h35]; rfl
  by_cases h36 : c = 36
  · subst h36
    obtain rfl : b = false := by rw [← hb.out]; rfl
    clear hp hb d1 d2 h1 h2
    go_enter Tryd.func47, Tryd.ntmps47
    go_wp2_with fail
    go_ret
    exact ⟨rfl, rfl⟩
  have n36 : ((c.toNat : Int) != 36) = true := by simp only [bne]; rw [show ((c.toNat : Int) == 36) = false from u8n (n := 36) h36]; rfl
  by_cases h59 : c = 59
  · subst h59
    obtain rfl : b = false := by rw [← hb.out]; rfl
    clear hp hb d1 d2 h1 h2
    go_enter Tryd.func47, Tryd.ntmps47
    go_wp2_with fail
    go_ret
    exact ⟨rfl, rfl⟩
  have n59 : ((c.toNat : Int) != 59) = true := by simp only [bne]; rw [show ((c.toNat : Int) == 59) = false from u8n (n := 59) h59]; rfl
  by_cases h91 : c = 91
  · subst h91
    obtain rfl : b = false := by rw [← hb.out]; rfl
    clear hp hb d1 d2 h1 h2
    go_enter Tryd.func47, Tryd.ntmps47
    go_wp2_with fail
    go_ret
    exact ⟨rfl, rfl⟩
  have n91 : ((c.toNat : Int) != 91) = true := by simp only [bne]; rw [show ((c.toNat : Int) == 91) = false from u8n (n := 91) h91]; rfl
  by_cases h92 : c = 92
  · subst h92
    obtain rfl : b = false := by rw [← hb.out]; rfl
    clear hp hb d1 d2 h1 h2
    go_enter Tryd.func47, Tryd.ntmps47
    go_wp2_with fail
    go_ret
    exact ⟨rfl, rfl⟩
  have n92 : ((c.toNat : Int) != 92) = true := by simp only [bne]; rw [show ((c.toNat : Int) == 92) = false from u8n (n := 92) h92]; rfl
  by_cases h93 : c = 93
  · subst h93
    obtain rfl : b = false := by rw [← hb.out]; rfl
    clear hp hb d1 d2 h1 h2
    go_enter Tryd.func47, Tryd.ntmps47
    go_wp2_with fail
    go_ret
    exact ⟨rfl, rfl⟩
  have n93 : ((c.toNat : Int) != 93) = true := by simp only [bne]; rw [show ((c.toNat : Int) == 93) = false from u8n (n := 93) h93]; rfl
  by_cases h123 : c = 123
  · subst h123
    obtain rfl : b = false := by rw [← hb.out]; rfl
    clear hp hb d1 d2 h1 h2
    go_enter Tryd.func47, Tryd.ntmps47
    go_wp2_with fail
    go_ret
    exact ⟨rfl, rfl⟩
  have n123 : ((c.toNat : Int) != 123) = true := by simp only [bne]; rw [show ((c.toNat : Int) == 123) = false from u8n (n := 123) h123]; rfl
  by_cases h125 : c = 125
  · subst h125
    obtain rfl : b = false := by rw [← hb.out]; rfl
    clear hp hb d1 d2 h1 h2
    go_enter Tryd.func47, Tryd.ntmps47
    go_wp2_with fail
    go_ret
    exact ⟨rfl, rfl⟩
  have n125 : ((c.toNat : Int) != 125) = true := by simp only [bne]; rw [show ((c.toNat : Int) == 125) = false from u8n (n := 125) h125]; rfl
  obtain rfl : b = true := by
    rw [hp.out, decide_eq_true (by omega), decide_eq_true (by omega)]
    have k : ∀ x : UInt8, c ≠ x → (x == c) = false := fun x h => beq_eq_false_iff_ne.2 (Ne.symm h)
    show (true && true && !(((34 : UInt8) == c) || (((35 : UInt8) == c) || (((36 : UInt8) == c) || (((59 : UInt8) == c) || (((91 : UInt8) == c) || (((92 : UInt8) == c) || (((93 : UInt8) == c) || (((123 : UInt8) == c) || (((125 : UInt8) == c) || false)))))))))) = true
    rw [k _ h34, k _ h35, k _ h36, k _ h59, k _ h91, k _ h92, k _ h93, k _ h123, k _ h125]
    rfl
  clear hp hb
  go_enter Tryd.func47, Tryd.ntmps47
  go_wp2_with fail
  go_ret
  exact ⟨rfl, rfl⟩
theorem qoct_ints : ∀ x : Fin 256, (48 + (x.val : Int) / 64) % 256 = ((48 + UInt8.ofNat x.val / 64).toNat : Int) ∧ 48 + (x.val : Int) / 8 % 8 = ((48 + UInt8.ofNat x.val / 8 % 8).toNat : Int) ∧ 48 + (x.val : Int) % 8 = ((48 + UInt8.ofNat x.val % 8).toNat : Int) := by decide +kernel
theorem qoct_int (c : UInt8) : (48 + (c.toNat : Int) / 64) % 256 = ((48 + c / 64).toNat : Int) ∧ 48 + (c.toNat : Int) / 8 % 8 = ((48 + c / 8 % 8).toNat : Int) ∧ 48 + (c.toNat : Int) % 8 = ((48 + c % 8).toNat : Int) := by
  have := qoct_ints ⟨c.toNat, c.toNat_lt⟩
  simp only [UInt8.ofNat_toNat] at this
  exact this
set_option maxRecDepth 100000 in
set_option maxHeartbeats 4000000 in
theorem qoctal_any (c : UInt8) (w : World) : Calls Tryd.prog 48 #[.int .u8 c.toNat] w fun e w' => e = .returned (.string (bstr (octB c))) ∧ Chg [] w w' := by
  obtain ⟨e1, e2, e3⟩ := qoct_int c
  have hcv : (convert 35 9 (.slice (some ⟨w.heap.size, 0, none⟩) 4 4)).run Tryd.prog (w.alloc (.cells #[.int .u8 92, .int .u8 ((48 + c / 64).toNat : Int), .int .u8 ((48 + c / 8 % 8).toNat : Int), .int .u8 ((48 + c % 8).toNat : Int)] 5)) = .ok (.string (bstr (octB c))) (w.alloc (.cells #[.int .u8 92, .int .u8 ((48 + c / 64).toNat : Int), .int .u8 ((48 + c / 8 % 8).toNat : Int), .int .u8 ((48 + c % 8).toNat : Int)] 5)) := by
    have := sl_string (P := Tryd.prog) (show Sl (w.alloc (.cells #[.int .u8 92, .int .u8 ((48 + c / 64).toNat : Int), .int .u8 ((48 + c / 8 % 8).toNat : Int), .int .u8 ((48 + c % 8).toNat : Int)] 5)) 1 (.slice (some ⟨w.heap.size, 0, none⟩) 4 4) 4 (cellsOf .u8 (nums (octB c))) from sl_new w [.int .u8 92, .int .u8 ((48 + c / 64).toNat : Int), .int .u8 ((48 + c / 8 % 8).toNat : Int), .int .u8 ((48 + c % 8).toNat : Int)] 5 4 rfl (by decide)) 35 5 9 Tryd.underlying35 Tryd.underlying5 Tryd.underlying9
    rwa [str_nums] at this
  rw [← e1, ← e2, ← e3] at hcv
  clear e1 e2 e3
  go_enter Tryd.func48, Tryd.ntmps48
  go_wp2_with fail
  go_ret
  exact ⟨rfl, (Chg.refl [] w).alloc _⟩

def quoteQ (u : List UInt8) : List UInt8 := 34 :: (textB false false u ++ [34])
theorem escB_ff (c : UInt8) : escB false false c = if plainB c then [c] else octB c := by
  unfold escB; simp
theorem oct_len (c : UInt8) : (octB c).length = 4 := rfl
set_option maxRecDepth 100000 in
set_option maxHeartbeats 4000000 in
theorem quote_any (u : List UInt8) (hu : u.length ≤ 100000) (k c : Nat) (w : World) (hr : ∀ j x, u[j]? = some x → w.cell? ⟨k, j, none⟩ = some (.int .u8 x.toNat)) :
    Calls Tryd.prog 30 #[.slice (some ⟨k, 0, none⟩) u.length c] w fun e w' => e = .returned (.string (bstr (quoteQ u))) ∧ Chg [] w w' := by
  replace hr := Lib.hid hr
  obtain ⟨R, hR⟩ : ∃ R, 34 :: textB false false u = R := ⟨_, rfl⟩
  have hQ : quoteQ u = R ++ [34] := by rw [← hR]; rfl
  rw [hQ]
  clear hQ
  replace hR := Lib.hid hR
  obtain ⟨n, hn⟩ : ∃ n, u.length = n := ⟨_, rfl⟩
  rw [hn] at hu ⊢
  go_enter Tryd.func30, Tryd.ntmps30
  go_upto_block 0 with (fail)
  go_wp2
  go_loopg [3, 4] n (fun gk v3 v4 wr => ∃ (j : Nat) (X : List UInt8) (Z : ByteArray), v3 = .string Z ∧ v4 = .int .i64 j ∧ j ≤ n ∧ gk = n - j ∧ Hid (Z = bstr X) ∧ Z.size ≤ 4 * j + 1 ∧ Hid (R = X ++ textB false false (u.drop j)) ∧ Hid (Chg [] w wr))
  case atStart => exact ⟨0, [34], _, rfl, rfl, by omega, by omega, Lib.hid rfl, by show 1 ≤ _; omega, Lib.hid (by rw [← hR.out]; simp), Lib.hid (Chg.refl _ _)⟩
  case round =>
    obtain ⟨j, X, Z, rfl, rfl, hj, rfl, hZ, hX, hT, hC⟩ := hrel
    by_cases hlj : j < n
    · obtain ⟨x, hx⟩ : ∃ x, u[j]? = some x := ⟨_, List.getElem?_eq_getElem (by omega)⟩
      have hcell := hC.out.cell (hr.out j x hx) (by simp)
      have hstep : textB false false (u.drop j) = escB false false x ++ textB false false (u.drop (j + 1)) := by
        obtain ⟨hl, he⟩ := List.getElem?_eq_some_iff.1 hx
        rw [List.drop_eq_getElem_cons hl, he, textB]
      have hT2 := hT.out
      rw [hstep, escB_ff] at hT2
      clear hstep hT
      cases pb : plainB x with
      | true =>
        rw [pb] at hT2
        replace hT2 := Lib.hid hT2
        have hp := Lib.hid (fun w => qplain_any x true pb w)
        clear pb
        go_wp2_with fail
        refine (hp.out _).mono ?_
        rintro e wr ⟨rfl, rfl⟩
        clear hp
        go_wp2_with fail
        go_roundg (n - (j + 1))
        case measure => omega
        case rel => exact ⟨j + 1, X ++ [x], _, rfl, by go_num, by omega, rfl, Lib.hid (by rw [hZ.out, bstr_app]), (by rw [ByteArray.size_append]; show Z.size + 1 ≤ _; omega), Lib.hid (by rw [hT2.out, List.append_assoc]; rfl), Lib.hid (hC.out.alloc _)⟩
      | false =>
        rw [pb] at hT2
        replace hT2 := Lib.hid hT2
        have hp := Lib.hid (fun w => qplain_any x false pb w)
        have ho := Lib.hid (fun w => qoctal_any x w)
        have h4 : (bstr (octB x)).size = 4 := rfl
        clear pb
        go_wp2_with fail
        refine (hp.out _).mono ?_
        rintro e wr ⟨rfl, rfl⟩
        clear hp
        go_wp2_with fail
        refine (ho.out _).mono ?_
        rintro e wq ⟨rfl, hCq⟩
        clear ho
        go_wp2_with fail
        go_roundg (n - (j + 1))
        case measure => omega
        case rel => exact ⟨j + 1, X ++ octB x, _, rfl, by go_num, by omega, rfl, Lib.hid (by rw [hZ.out, bstr_app]), (by rw [ByteArray.size_append]; show Z.size + 4 ≤ _; omega), Lib.hid (by rw [hT2.out, List.append_assoc]; rfl), Lib.hid (hC.out.trans hCq)⟩
    · obtain rfl : j = n := by omega
      have hE : Z ++ (⟨#[34]⟩ : ByteArray) = bstr (R ++ [34]) := by
        rw [hZ.out, show (⟨#[34]⟩ : ByteArray) = bstr [34] from rfl, bstr_app]
        have h1 : textB false false (u.drop j) = [] := by rw [List.drop_eq_nil_of_le (by omega)]; rfl
        have h2 := hT.out
        rw [h1, List.append_nil] at h2
        rw [h2]
      replace hE := Lib.hid hE
      clear hT hZ hR
      go_wp2_with fail
      go_ret
      exact ⟨congrArg (fun z => Ending.returned (Value.string z)) hE.out, hC.out⟩
theorem bytesWorld_chg (w : World) (e : TypeId) (s : ByteArray) : Chg [] w (Lib.bytesWorld w e s) := ⟨rfl, rfl, rfl, by rw [Lib.bytesWorld_size]; omega, fun j hj _ => Lib.bytesWorld_at_old w e s j hj⟩
theorem quote_str (s : ByteArray) (hs : s.size ≤ 100000) (c : Nat) (w : World) :
    Calls Tryd.prog 30 #[.slice (some ⟨w.heap.size, 0, none⟩) s.size c] (Lib.bytesWorld w 5 s) fun e w' => e = .returned (.string (bstr (quoteQ s.data.toList))) ∧ Chg [] w w' := by
  have hl : s.data.toList.length = s.size := by rw [Array.length_toList]; rfl
  have := quote_any s.data.toList (by omega) w.heap.size c (Lib.bytesWorld w 5 s) (fun j x hx => by
    have hj : j < s.size := by have := (List.getElem?_eq_some_iff.1 hx).1; omega
    rw [Lib.bytesWorld_cell w 5 s j hj, List.getD, hx]; rfl)
  rw [hl] at this
  exact this.mono fun e w' h => ⟨h.1, (bytesWorld_chg w 5 s).trans h.2⟩
@[go_sem] theorem conv_bytes (w : World) (s : ByteArray) : (convert 9 35 (.string s)).run Tryd.prog w = .ok (.slice (some ⟨w.heap.size, 0, none⟩) s.size (grownCap w s.size 0 5)) (Lib.bytesWorld w 5 s) :=
  Lib.run_convert_string_bytes w 9 35 5 s Tryd.underlying9 Tryd.underlying35 Tryd.underlying5
end Ar
end Go.Proofs.YtncoedoiakaedaaDoor
