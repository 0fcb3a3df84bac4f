/- Contracts of package quote: Plain, Octal, Quote. Conditions: as they state. -/
import Derived.Test.YtncoedoiakaedaaDoorBld
import Derived.Test.YtncoedoiakaedaaDoorTclPrK
import Derived.Test.YtncoedoiakaedaaDoorArQ
set_option linter.unusedVariables false
set_option linter.unusedSimpArgs false
namespace Go.Proofs.YtncoedoiakaedaaDoor
open Go.RowKit Tcl Ar
namespace Bl
theorem plain_bytes : ∀ x : Fin 256, plainB (UInt8.ofNat x.val) = (decide (32 ≤ x.val) && decide (x.val ≤ 126) && !((⟨#[34, 35, 36, 59, 91, 92, 93, 123, 125]⟩ : ByteArray).data.toList.any (· == UInt8.ofNat x.val))) := by decide +kernel
theorem plain_b (c : UInt8) : plainB c = (decide (32 ≤ c.toNat) && decide (c.toNat ≤ 126) && !((⟨#[34, 35, 36, 59, 91, 92, 93, 123, 125]⟩ : ByteArray).data.toList.any (· == c))) := by
  have := plain_bytes ⟨c.toNat, c.toNat_lt⟩
  simp only [UInt8.ofNat_toNat] at this
  exact this
set_option maxRecDepth 100000 in
set_option maxHeartbeats 4000000 in
theorem plain_any (c : UInt8) (b : Bool) (hb : plainB c = b) (w : World) : Calls Tryd.prog 43 #[.int .u8 c.toNat] w fun e w' => e = .returned (.bool b) ∧ w = w' := by
  have hi := index_any ⟨#[34, 35, 36, 59, 91, 92, 93, 123, 125]⟩ (c.toNat : Int)
  have hh := index_has ((⟨#[34, 35, 36, 59, 91, 92, 93, 123, 125]⟩ : ByteArray).data.toList) c
  rw [plain_b, ← hh] at hb
  have ec : ((c.toNat : Int)).toNat.toUInt8 = c := by rw [Int.toNat_natCast]; exact UInt8.ofNat_toNat
  rw [ec] at hi
  clear hh ec
  obtain ⟨v, hv⟩ : ∃ v, Lib.indexByte ((⟨#[34, 35, 36, 59, 91, 92, 93, 123, 125]⟩ : ByteArray).data.toList) c = v := ⟨_, rfl⟩
  rw [hv] at hi hb
  clear hv
  replace hi := Lib.hid hi
  by_cases h1 : 32 ≤ c.toNat
  · have d1 : decide ((c.toNat : Int) ≥ 32) = true := by simp; omega
    by_cases h2 : c.toNat ≤ 126
    · have d2 : decide ((c.toNat : Int) ≤ 126) = true := by simp; omega
      have hb2 : b = decide (v < 0) := by
        rw [← hb, decide_eq_true h1, decide_eq_true h2]
        by_cases h : 0 ≤ v
        · have : ¬ v < 0 := by omega
          simp [h, this]
        · have : v < 0 := by omega
          simp [h, this]
      subst hb2
      clear hb
      go_enter Tryd.func43, Tryd.ntmps43
      go_wp2_with fail
      refine (hi.out _).mono ?_
      rintro e w' ⟨rfl, rfl⟩
      go_wp2_with fail
      go_ret
      exact ⟨rfl, rfl⟩
    · have d2 : decide ((c.toNat : Int) ≤ 126) = false := by simp; omega
      have hb2 : b = false := by rw [← hb, decide_eq_false h2]; simp
      subst hb2
      clear hb hi
      go_enter Tryd.func43, Tryd.ntmps43
      go_wp2_with fail
      go_ret
      exact ⟨rfl, rfl⟩
  · have d1 : decide ((c.toNat : Int) ≥ 32) = false := by simp; omega
    have hb2 : b = false := by rw [← hb, decide_eq_false h1]; simp
    subst hb2
    clear hb hi
    go_enter Tryd.func43, Tryd.ntmps43
    go_wp2_with fail
    go_ret
    exact ⟨rfl, rfl⟩
theorem oct_ints : ∀ x : Fin 256, (48 + (x.val : Int) / 64) % 256 = ((48 + UInt8.ofNat x.val / 64).toNat : Int) ∧ (48 + bits BinOp.and IntKind.u8 ((x.val : Int) / 8) 7) % 256 = ((48 + UInt8.ofNat x.val / 8 % 8).toNat : Int) ∧ (48 + bits BinOp.and IntKind.u8 (x.val : Int) 7) % 256 = ((48 + UInt8.ofNat x.val % 8).toNat : Int) := by decide +kernel
theorem oct_int (c : UInt8) : (48 + (c.toNat : Int) / 64) % 256 = ((48 + c / 64).toNat : Int) ∧ (48 + bits BinOp.and IntKind.u8 ((c.toNat : Int) / 8) 7) % 256 = ((48 + c / 8 % 8).toNat : Int) ∧ (48 + bits BinOp.and IntKind.u8 (c.toNat : Int) 7) % 256 = ((48 + c % 8).toNat : Int) := by
  have := oct_ints ⟨c.toNat, c.toNat_lt⟩
  simp only [UInt8.ofNat_toNat] at this
  exact this
set_option maxRecDepth 100000 in
set_option maxHeartbeats 4000000 in
theorem octal_any (c : UInt8) (w : World) : Calls Tryd.prog 44 #[.int .u8 c.toNat] w fun e w' => e = .returned (.string (bstr (octB c))) ∧ Chg [] w w' := by
  obtain ⟨e1, e2, e3⟩ := oct_int c
  have hcv : (convert 35 9 (.slice (some ⟨w.heap.size, 0, none⟩) 4 4)).run Tryd.prog (w.alloc (.cells #[.int .u8 92, .int .u8 ((48 + c / 64).toNat : Int), .int .u8 ((48 + c / 8 % 8).toNat : Int), .int .u8 ((48 + c % 8).toNat : Int)] 5)) = .ok (.string (bstr (octB c))) (w.alloc (.cells #[.int .u8 92, .int .u8 ((48 + c / 64).toNat : Int), .int .u8 ((48 + c / 8 % 8).toNat : Int), .int .u8 ((48 + c % 8).toNat : Int)] 5)) := by
    have := sl_string (P := Tryd.prog) (show Sl (w.alloc (.cells #[.int .u8 92, .int .u8 ((48 + c / 64).toNat : Int), .int .u8 ((48 + c / 8 % 8).toNat : Int), .int .u8 ((48 + c % 8).toNat : Int)] 5)) 1 (.slice (some ⟨w.heap.size, 0, none⟩) 4 4) 4 (cellsOf .u8 (nums (octB c))) from sl_new w [.int .u8 92, .int .u8 ((48 + c / 64).toNat : Int), .int .u8 ((48 + c / 8 % 8).toNat : Int), .int .u8 ((48 + c % 8).toNat : Int)] 5 4 rfl (by decide)) 35 5 9 Tryd.underlying35 Tryd.underlying5 Tryd.underlying9
    rwa [str_nums] at this
  rw [← e1, ← e2, ← e3] at hcv
  clear e1 e2 e3
  go_enter Tryd.func44, Tryd.ntmps44
  go_wp2_with fail
  go_ret
  exact ⟨rfl, (Chg.refl [] w).alloc _⟩
theorem chg_then_below {w a b : World} {N : Nat} (h : Chg [] w a) (k : Below N a b) (hN : w.heap.size ≤ N) : Chg [] w b :=
  ⟨k.os.trans h.os, k.tape.trans h.tape, k.output.trans h.output, Nat.le_trans h.size k.size, fun i hi hn => (k.block i (by omega)).trans (h.block i hi hn)⟩
theorem quoteQ_len (u : List UInt8) : (quoteQ u).length ≤ 4 * u.length + 2 := by
  have h : (textB false false u).length ≤ 4 * u.length := by
    induction u with
    | nil => simp [textB]
    | cons c u ih =>
      rw [textB, List.length_append, escB_ff, List.length_cons]
      split
      · simp; omega
      · rw [oct_len]; omega
  unfold quoteQ
  simp; omega
set_option maxRecDepth 100000 in
set_option maxHeartbeats 4000000 in
theorem quote_w (u : List UInt8) (n c : Nat) (hn : u.length = n) (hu : n ≤ 16777216) (A : Option Addr) (w : World) (hS : Sl w 1 (.slice A n c) n (cellsOf .u8 (nums u))) :
    Calls Tryd.prog 26 #[.slice A n c] w fun e w' => e = .returned (.string (bstr (quoteQ u))) ∧ Chg [] w w' := by
  obtain ⟨R, hR⟩ : ∃ R, 34 :: textB false false u = R := ⟨_, rfl⟩
  have hQ : quoteQ u = R ++ [34] := by rw [← hR]; rfl
  have hql := quoteQ_len u
  rw [hQ] at hql ⊢
  clear hQ
  replace hR := Lib.hid hR
  obtain ⟨g, hg⟩ : ∃ g, w.heap.size = g := ⟨_, rfl⟩
  have hi := Bd.init w
  rw [hg] at hi
  have hw1 := Lib.hid (writeByte_bd _ g _ _ [] 34 (.inl rfl) hi (by simp))
  replace hS := Lib.hid hS
  replace hn := Lib.hid hn
  replace hql := Lib.hid hql
  clear hi
  go_enter Tryd.func26, Tryd.ntmps26
  go_wp2_with fail
  refine hw1.out.mono ?_
  rintro e w1 ⟨rfl, v1, hB1, hat1, hC1⟩
  have hC1' : Hid (Chg [] w w1) := Lib.hid (((Chg.refl [] w).alloc _).then hC1 (fun x hx => by simp [Value.ownBlock] at hx; subst hx; exact .inr (by omega)))
  replace hB1 := Lib.hid hB1
  clear hw1 hat1 hC1
  go_wp2_with fail
  go_loopg [5, 9] n (fun gk v5 v9 wr => ∃ (j : Nat) (X : List UInt8) (v : Value), v9 = .int .i64 j ∧ j ≤ n ∧ gk = n - j ∧ X.length ≤ 4 * j + 1 ∧ Hid (R = X ++ textB false false (u.drop j)) ∧ Hid (Bd wr g (.pointer (some ⟨g, 0, none⟩)) v X) ∧ Hid (Chg [] w wr))
  case atStart => exact ⟨0, [34], v1, rfl, by omega, by omega, by simp, Lib.hid (by rw [← hR.out]; simp), hB1, hC1'⟩
  case round =>
    obtain ⟨j, X, v, rfl, hj, rfl, hX, hT, hB, hC⟩ := hrel
    by_cases hlj : j < n
    · obtain ⟨bb, oo, x', rfl, hx', hcell⟩ := (hS.out.chg hC.out (by simp)).at j hlj
      obtain ⟨x, hx, rfl⟩ : ∃ x, u[j]? = some x ∧ x' = (x.toNat : Int) := by
        unfold nums at hx'
        rw [List.getElem?_map] at hx'
        obtain ⟨x, h1, h2⟩ := Option.map_eq_some_iff.1 hx'
        exact ⟨x, h1, h2.symm⟩
      have hstep : textB false false (u.drop j) = escB false false x ++ textB false false (u.drop (j + 1)) := by
        obtain ⟨hl, he⟩ := List.getElem?_eq_some_iff.1 hx
        rw [List.drop_eq_getElem_cons hl, he, textB]
      have hT2 := hT.out
      rw [hstep, escB_ff] at hT2
      have hav := fun (w' : World) (X' : List UInt8) (h : Wrote wr w' g v X') => (show ∃ v', Hid (Bd w' g (.pointer (some ⟨g, 0, none⟩)) v' X') ∧ Hid (Chg [] w w') by
        obtain ⟨v', h1, -, h3⟩ := h
        exact ⟨v', Lib.hid h1, Lib.hid (hC.out.then h3 (fun q hq => .inr (by
          rcases List.mem_cons.1 hq with rfl | hq
          · omega
          · have := hB.out.lt q (by simpa using hq); omega)))⟩)
      replace hav := Lib.hid hav
      clear hstep hT hx hx'
      cases pb : plainB x with
      | true =>
        rw [pb] at hT2
        replace hT2 := Lib.hid hT2
        have hp := Lib.hid (fun w => plain_any x true pb w)
        have hw := Lib.hid (writeByte_bd wr g _ v X x (.inr rfl) hB.out (by omega))
        clear pb hB
        go_wp2_with fail
        refine (hp.out _).mono ?_
        rintro e wr2 ⟨rfl, rfl⟩
        clear hp
        go_wp2_with fail
        refine hw.out.mono ?_
        rintro e w5 ⟨rfl, h5⟩
        obtain ⟨v', hB', hC'⟩ := hav.out _ _ h5
        clear hw h5 hav
        go_wp2_with fail
        go_roundg (n - (j + 1))
        case measure => omega
        case rel => exact ⟨j + 1, X ++ [x], v', by go_num, by omega, rfl, (by rw [List.length_append]; show X.length + 1 ≤ _; omega), Lib.hid (by rw [hT2.out, List.append_assoc]; rfl), hB', hC'⟩
      | false =>
        rw [pb] at hT2
        replace hT2 := Lib.hid hT2
        have hp := Lib.hid (fun w => plain_any x false pb w)
        have ho := Lib.hid (octal_any x wr)
        have hB2 := Lib.hid (fun W (hW : Chg [] wr W) => writeString_bd W g _ v X (octB x) (.inr rfl) (hB.out.chg hW (by simp) (by simp)) (by rw [oct_len]; omega))
        have hvv := Lib.hid (fun W (hW : Chg [] wr W) w' X' (h : Wrote W w' g v X') => (show ∃ v', Hid (Bd w' g (.pointer (some ⟨g, 0, none⟩)) v' X') ∧ Hid (Chg [] w w') by
          obtain ⟨v', h1, -, h3⟩ := h
          exact ⟨v', Lib.hid h1, Lib.hid ((hC.out.trans hW).then h3 (fun q hq => .inr (by
            rcases List.mem_cons.1 hq with rfl | hq
            · omega
            · have := hB.out.lt q (by simpa using hq); omega)))⟩))
        clear pb hB hav
        go_wp2_with fail
        refine (hp.out _).mono ?_
        rintro e wr2 ⟨rfl, rfl⟩
        clear hp
        go_wp2_with fail
        refine ho.out.mono ?_
        rintro e wq ⟨rfl, hCq⟩
        clear ho
        have hw := Lib.hid (hB2.out _ hCq)
        replace hvv := Lib.hid (hvv.out _ hCq)
        clear hB2 hCq
        go_wp2_with fail
        refine hw.out.mono ?_
        rintro e w5 ⟨⟨n5, rfl⟩, h5⟩
        obtain ⟨v', hB', hC'⟩ := hvv.out _ _ h5
        clear hw h5 hvv
        go_wp2_with fail
        go_roundg (n - (j + 1))
        case measure => omega
        case rel => exact ⟨j + 1, X ++ octB x, v', by go_num, by omega, rfl, (by rw [List.length_append, oct_len]; omega), Lib.hid (by rw [hT2.out, List.append_assoc]; rfl), hB', hC'⟩
    · obtain rfl : j = n := by omega
      have hRX : R = X := by
        have h1 : textB false false (u.drop j) = [] := by rw [List.drop_eq_nil_of_le (by rw [hn.out]; omega)]; rfl
        have h2 := hT.out
        rw [h1, List.append_nil] at h2
        exact h2
      subst hRX
      have hw := Lib.hid (writeByte_bd wr g _ v R 34 (.inr rfl) hB.out (by omega))
      have hvv := Lib.hid (fun w' X' (h : Wrote wr w' g v X') => (show ∃ v', Bd w' g (.pointer (some ⟨g, 0, none⟩)) v' X' ∧ Chg [] w w' by
          obtain ⟨v', h1, -, h3⟩ := h
          exact ⟨v', h1, (hC.out).then h3 (fun q hq => .inr (by
            rcases List.mem_cons.1 hq with rfl | hq
            · omega
            · have := hB.out.lt q (by simpa using hq); omega))⟩))
      clear hT hR hB
      go_wp2_with fail
      refine hw.out.mono ?_
      rintro e w5 ⟨rfl, h5⟩
      obtain ⟨v', hB', hC'⟩ := hvv.out _ _ h5
      have hs := Lib.hid (string_bd w5 g _ v' (R ++ [34]) hB')
      have hvl := Lib.hid (fun q hq => hB'.lt q hq)
      replace hC' := Lib.hid hC'
      clear hw h5 hvv hB'
      go_wp2_with fail
      refine hs.out.mono ?_
      rintro e w6 ⟨rfl, h6⟩
      have hCE : Hid (Chg [] w w6) := Lib.hid (hC'.out.then h6 (fun q hq => .inr (by have := (hvl.out q (by simpa using hq)).1; omega)))
      clear hs h6 hC'
      go_wp2_with fail
      go_ret
      exact ⟨rfl, hCE.out⟩
end Bl
end Go.Proofs.YtncoedoiakaedaaDoor
