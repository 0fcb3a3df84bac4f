/- Contract of package tcl's braced. Conditions: as it states. -/
import Derived.Test.YtncoedoiakaedaaDoorTclLow
import Derived.Test.YtncoedoiakaedaaDoorWide
import Derived.StillTailTactics
set_option linter.unusedVariables false
set_option linter.unusedSimpArgs false
namespace Go.Proofs.YtncoedoiakaedaaDoor
open Go.RowKit Tcl
def bstr (l : List UInt8) : ByteArray := ⟨l.toArray⟩
theorem bstr_list (l : List UInt8) : (bstr l).data.toList = l := rfl
theorem bstr_size (l : List UInt8) : (bstr l).size = l.length := rfl
theorem extract_bstr (l : List UInt8) (a b : Nat) : (bstr l).extract a b = bstr (sub l a b) := by
  apply ByteArray.ext
  apply Array.ext'
  show ((bstr l).extract a b).data.toList = sub l a b
  rw [ByteArray.data_extract, Array.toList_extract, List.extract_eq_take_drop, bstr_list]
  unfold sub; rw [List.drop_take]
def partCells (p : Part) : List Value := [.bool p.var, .string (bstr p.s)]
def partsCells (l : List Part) : List Value := l.flatMap partCells
/-- The slice of a word's parts. -/
def PartsAt (w : World) (v : Value) (l : List Part) : Prop := Sl w 2 v l.length (partsCells l)
theorem byte_of {s : List UInt8} {i : Nat} (h : i < (bstr s).size) : s[i]? = some ((bstr s)[i]'h) := by
  have h1 : i < s.length := h
  rw [List.getElem?_eq_getElem h1]; rfl
/-- What `braced` tells. -/
def BrEnd (w : World) (g : Nat) (s : List UInt8) (f : Nat) (a0 : Int) (e : Ending) (w' : World) : Prop :=
  ∃ v, e = .returned v ∧ Chg [g] w w' ∧
    ((∃ j, braced s f f 0 = .ok j ∧ PS w' g (bstr s) j a0 0 ∧ PartsAt w' v (if j = f + 2 then [] else [⟨false, sub s (f + 1) (j - 1)⟩]) ∧ ∀ q, v.ownBlock = some q → w.heap.size ≤ q)
    ∨ (∃ p c : Nat, braced s f f 0 = .error (p, c) ∧ PS w' g (bstr s) s.length p c ∧ v = .slice none 0 0 ∧ c ≠ 0))
theorem u8n {a : UInt8} {n : Nat} (h : a ≠ UInt8.ofNat n) (hn : n < 256 := by decide) : ((a.toNat : Int) == (n : Int)) = false := by
  rw [beq_eq_false_iff_ne]
  intro e
  refine h (UInt8.toNat_inj.1 ?_)
  have h2 : (UInt8.ofNat n).toNat = n % 256 := rfl
  rw [h2, Nat.mod_eq_of_lt hn]; omega
set_option maxRecDepth 100000 in
set_option maxHeartbeats 4000000 in
/-- A braced word: its parts and the place behind it, or what is wrong. -/
theorem braced_any (w : World) (g : Nat) (s : List UInt8) (f : Nat) (a0 : Int) (hs : s.length ≤ 16777300) (hf : s[f]? = some 123) (h : PS w g (bstr s) f a0 0) :
    Calls Tryd.prog 104 #[.pointer (some ⟨g, 0, none⟩)] w (BrEnd w g s f a0) := by
  have hsz : (bstr s).size = s.length := rfl
  have hfl := lt_of_some hf
  obtain ⟨c0, c1, -, -⟩ := h.c0
  obtain ⟨B, hB⟩ : ∃ B, bstr s = B := ⟨_, rfl⟩
  have hby : ∀ i (h : i < B.size), s[i]? = some (B[i]'h) := by rw [← hB]; exact fun i h => byte_of h
  have hex : ∀ a b, B.extract a b = bstr (sub s a b) := by rw [← hB]; exact extract_bstr s
  unfold BrEnd
  rw [hB] at h c0 hsz ⊢
  replace hby := Lib.hid hby
  replace hex := Lib.hid hex
  clear hB
  go_enter Tryd.func104, Tryd.ntmps104
  go_wp2_with fail
  go_loopg [4] (s.length + 1 - f) (fun gk v4 wr => ∃ (i d : Nat), v4 = .int .i64 d ∧ PS wr g B i a0 0 ∧ Chg [g] w wr ∧ Hid (braced s f f 0 = braced s f i d) ∧ f ≤ i ∧ i ≤ s.length + 1 ∧ gk = s.length + 1 - i ∧ (d = 0 → i = f) ∧ d ≤ 64)
  case atStart => exact ⟨f, 0, rfl, h, Chg.refl _ _, rfl, by omega, by omega, by omega, by omega, by omega⟩
  case round =>
    obtain ⟨i, d, rfl, hP, hC, hbr, hfi, hil, rfl, hd0, hd64⟩ := hrel
    clear h c0 c1
    obtain ⟨c0, c1, -, -⟩ := hP.c0
    replace hP := Lib.hid hP
    replace hC := Lib.hid hC
    by_cases hlt : i < s.length
    · go_wp2_with fail
      go_quiet (fail)
      have hP1 : PS (wr.drewN nq) g B i a0 0 := hP.out
      have hC1 := hC.out.drewN nq
      clear hP hC c0 c1
      obtain ⟨w1, hw1⟩ : ∃ w1, wr.drewN nq = w1 := ⟨_, rfl⟩
      rw [hw1] at hP1 hC1 ⊢
      clear hw1
      obtain ⟨c0, c1, -, -⟩ := hP1.c0
      replace hP1 := Lib.hid hP1
      replace hC1 := Lib.hid hC1
      have hlB : i < B.size := by omega
      obtain ⟨c, hc⟩ : ∃ c, B[i]'hlB = c := ⟨_, rfl⟩
      have hsc : s[i]? = some c := by rw [hby.out i hlB, hc]
      have hstep := hbr.out.trans (braced_some hsc)
      replace hstep := Lib.hid hstep
      go_wp2_with fail
      go_quiet (fail)
      have hP2 : PS (w1.drewN nq) g B i a0 0 := hP1.out
      have hC2 := hC1.out.drewN nq
      clear hP1 hC1 c0 c1
      obtain ⟨w2, hw2⟩ : ∃ w2, w1.drewN nq = w2 := ⟨_, rfl⟩
      rw [hw2] at hP2 hC2 ⊢
      clear hw2
      obtain ⟨c0, c1, -, -⟩ := hP2.c0
      have f1 := hP2.f0 1
      replace hP2 := Lib.hid hP2
      replace hC2 := Lib.hid hC2
      by_cases h1 : c = 92
      · subst h1
        have hb' : Hid (braced s f f 0 = braced s f (i + 2) d) := Lib.hid (by rw [hstep.out, if_pos rfl])
        have hd0' : d = 0 → i + 2 = f := fun h0 => by have := hd0 h0; subst this; rw [hf] at hsc; cases hsc
        go_wp2_with fail
        go_roundg (s.length + 1 - (i + 2))
        case measure => omega
        case rel => exact ⟨i + 2, d, rfl, by have e : ((i + 2 : Nat) : Int) = (i : Int) + 1 + 1 := by omega
                                             rw [e]; exact (hP2.out.put _).put _, (hC2.out.setCell (.inl (by simp)) _).setCell (.inl (by simp)) _, hb', by omega, by omega, rfl, hd0', hd64⟩
      have e1 := u8n (n := 92) h1
      have hb1 := hstep.out.trans (if_neg h1)
      by_cases h2 : c = 123
      · subst h2
        by_cases hd : d + 1 > 64
        · have hE := Lib.hid (hb1.trans ((if_pos rfl).trans (if_pos hd)))
          have hd' : d = 64 := by omega
          clear hb1 hstep
          go_wp2_with fail
          refine (fail_first w2 g B i a0 i 7 hP2.out).mono ?_
          rintro e w' ⟨rfl, hP3, hC3⟩
          go_wp2_with fail
          go_ret
          exact ⟨_, rfl, hC2.out.trans hC3, .inr ⟨i, 7, hE.out, by rw [← hsz]; exact hP3, rfl, by decide⟩⟩
        · have hb' : Hid (braced s f f 0 = braced s f (i + 1) (d + 1)) := hb1.trans ((if_pos rfl).trans (if_neg hd))
          clear hb1 hstep
          go_wp2_with fail
          go_roundg (s.length + 1 - (i + 1))
          case measure => omega
          case rel => exact ⟨i + 1, d + 1, by go_num, hP2.out.put _, hC2.out.setCell (.inl (by simp)) _, hb', by omega, by omega, rfl, fun h => absurd h (by omega), by omega⟩
      have e2 := u8n (n := 123) h2
      replace hb1 := hb1.trans (if_neg h2)
      have hdn : d ≠ 0 := fun h0 => by have := hd0 h0; subst this; rw [hf] at hsc; cases hsc; exact h2 rfl
      obtain ⟨d, rfl⟩ : ∃ d', d = d' + 1 := ⟨d - 1, by omega⟩
      by_cases h3 : c = 125
      · subst h3
        by_cases hd : d + 1 > 1
        · have hb' : Hid (braced s f f 0 = braced s f (i + 1) d) := hb1.trans ((if_pos rfl).trans (if_pos hd))
          clear hb1 hstep
          go_wp2_with fail
          go_roundg (s.length + 1 - (i + 1))
          case measure => omega
          case rel => exact ⟨i + 1, d, by go_num, hP2.out.put _, hC2.out.setCell (.inl (by simp)) _, hb', by omega, by omega, rfl, fun h => absurd h (by omega), by omega⟩
        · have hE := Lib.hid (hb1.trans ((if_pos rfl).trans (if_neg hd)))
          obtain rfl : d = 0 := by omega
          have hP3 := Lib.hid (hP2.out.put ((i : Int) + 1))
          have hC3 := Lib.hid (hC2.out.setCell (p := ⟨g, 1, none⟩) (.inl (by simp)) (.int .i64 ((i : Int) + 1)))
          clear hb1 hstep
          by_cases hj : i + 1 = f + 2
          · go_wp2_with fail
            go_ret
            exact ⟨_, rfl, hC3.out, .inl ⟨i + 1, hE.out, hP3.out, by rw [if_pos hj]; exact Sl.nil _ _, by simp [Value.ownBlock]⟩⟩
          · have hji : ((i : Int) + 1 == (f : Int) + 2) = false := by rw [beq_eq_false_iff_ne]; omega
            have hfi2 : f + 1 ≤ i := by
              rcases Nat.lt_or_ge f i with h | h
              · exact h
              · have : i = f := by omega
                subst this; rw [hf] at hsc; cases hsc
            go_wp2_with fail
            obtain ⟨w3, hw3⟩ : ∃ w3, w2.setCell ⟨g, 1, none⟩ (.int .i64 ((i : Int) + 1)) = w3 := ⟨_, rfl⟩
            rw [hw3] at hP3 hC3 ⊢
            obtain ⟨c0, c1, -, -⟩ := hP3.out.c0
            have ew : IntKind.i64.wrap ((i : Int)) = (i : Int) := IntWalk.i64_in _ (by omega)
            have ew2 : IntKind.i64.wrap ((f : Int) + 1) = (f : Int) + 1 := IntWalk.i64_in _ (by omega)
            have hsl : ∀ w : World, (Instr.slice 9 (.string B) (some (.int .i64 ((f : Int) + 1))) (some (.int .i64 (i : Int))) none).run Tryd.prog w = .ok (.string (B.extract (f + 1) i)) w := fun w => by
              have h := run_slice_string (P := Tryd.prog) w 9 B .i64 .i64 ((f : Int) + 1) (i : Int) Tryd.underlying9 (by omega) (by omega) (by omega)
              rw [h, show ((f : Int) + 1).toNat = f + 1 by omega, show ((i : Int)).toNat = i by omega]
            go_still_tail 13, (by kernel_rfl)
            change wpList _ _ _ _ _ w3.drew
            have hP4 : PS w3.drew g B ((i : Nat) + 1 : Int) a0 0 := hP3.out
            have hC4 := Lib.hid hC3.out.drew
            replace hP4 := Lib.hid hP4
            clear hP3 hC3 c0 c1
            generalize w3.drew = w4 at hP4 hC4 ⊢
            go_wp2_with fail
            go_ret
            have hS := sl_wide_new w4 [.bool false, .string (B.extract (f + 1) i)] 66 2 rfl
            refine ⟨_, rfl, hC4.out.alloc _, .inl ⟨i + 1, hE.out, PS.chg hP4.out ((Chg.refl [] w4).alloc _) (by simp), ?_, fun q hq => by simp [Value.ownBlock] at hq; have := hC4.out.size; omega⟩⟩
            rw [if_neg hj, Nat.add_sub_cancel]
            rw [hex.out] at hS ⊢
            exact hS
      · have e3 := u8n (n := 125) h3
        have hb' : Hid (braced s f f 0 = braced s f (i + 1) (d + 1)) := hb1.trans (if_neg h3)
        clear hb1 hstep
        go_wp2_with fail
        go_roundg (s.length + 1 - (i + 1))
        case measure => omega
        case rel => exact ⟨i + 1, d + 1, by go_num, hP2.out.put _, hC2.out.setCell (.inl (by simp)) _, hb', by omega, by omega, rfl, fun h => absurd h (by omega), by omega⟩
    · have hn : s[i]? = none := List.getElem?_eq_none (by omega)
      have hE := Lib.hid (hbr.out.trans (braced_none hn))
      go_wp2_with fail
      go_quiet (fail)
      have hP1 : PS (wr.drewN nq) g B i a0 0 := hP.out
      have hC1 := Lib.hid (hC.out.drewN nq)
      go_wp2_with fail
      refine (fail_first _ g B i a0 f 5 hP1).mono ?_
      rintro e w' ⟨rfl, hP2, hC2⟩
      go_wp2_with fail
      go_ret
      exact ⟨_, rfl, hC1.out.trans hC2, .inr ⟨f, 5, hE.out, by rw [← hsz]; exact hP2, rfl, by decide⟩⟩
end Go.Proofs.YtncoedoiakaedaaDoor
