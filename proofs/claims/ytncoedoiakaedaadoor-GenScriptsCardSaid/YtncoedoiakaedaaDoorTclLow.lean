/- Contracts of package tcl's small functions: in, names, fail; of strings.IndexFunc at 'no name's byte'. Conditions: as each states. -/
import Derived.Test.YtncoedoiakaedaaDoorProg
import Derived.Test.YtncoedoiakaedaaDoorLib2
import Derived.Test.YtncoedoiakaedaaDoorTclRune
import Derived.Lib.Bytealg
import Derived.Lib.OthersKept
import Derived.ChangeAlike
import Derived.RegionTactic
import Derived.Deep.QuietTactic
import Derived.BigQuiet
import Derived.Deep.RegionLaw
import Derived.Deep.RegionWith
import Derived.Deep.RegionHeld3
import Derived.Deep.LoopGhost
set_option linter.unusedVariables false
set_option linter.unusedSimpArgs false
namespace Go.Proofs.YtncoedoiakaedaaDoor
open Go.RowKit Tcl

@[go_sem] theorem ext_index (s : ByteArray) (c : Int) (w : World) : (callFunc 87 #[.string s, .int .u8 c]).run Tryd.prog w = .ok (.value (.int .i64 (Lib.indexByte s.data.toList c.toNat.toUInt8))) w := by
  rw [run_callFunc_extern Tryd.func87 (by kernel_rfl) (by kernel_rfl) (by kernel_rfl) (e := Extern.BytealgIndexByte.indexByte) (by kernel_rfl), Lib.run_indexByteString]
  rfl
theorem slite_any (s : ByteArray) (c : Int) (w : World) :
    Calls Tryd.prog 72 #[.string s, .int .u8 c] w fun e w' => e = .returned (.int .i64 (Lib.indexByte s.data.toList c.toNat.toUInt8)) ∧ w = w' := by
  go_enter Tryd.func72, Tryd.ntmps72
  go_wp2
  go_ret
  exact ⟨rfl, rfl⟩
theorem index_any (s : ByteArray) (c : Int) (w : World) :
    Calls Tryd.prog 58 #[.string s, .int .u8 c] w fun e w' => e = .returned (.int .i64 (Lib.indexByte s.data.toList c.toNat.toUInt8)) ∧ w = w' := by
  go_enter Tryd.func58, Tryd.ntmps58
  go_wp2_with fail
  refine (slite_any s c w).mono ?_
  rintro e w' ⟨rfl, rfl⟩
  go_wp2
  go_ret
  exact ⟨rfl, rfl⟩
theorem index_find (l : List UInt8) (c : UInt8) : Lib.indexByte l c = match l.findIdx? (· == c) with | none => -1 | some n => (n : Int) := by
  induction l with
  | nil => simp [Lib.indexByte]
  | cons b l ih =>
    rw [Lib.indexByte, List.findIdx?_cons]
    by_cases h : b == c
    · simp [h]
    · rw [if_neg h, if_neg h, ih]
      cases l.findIdx? (· == c) with
      | none => simp
      | some n =>
        simp; try omega
theorem index_has (l : List UInt8) (c : UInt8) : decide (0 ≤ Lib.indexByte l c) = l.any (· == c) := by
  rw [index_find]
  cases h : l.findIdx? (· == c) with
  | none =>
    rw [List.findIdx?_eq_none_iff] at h
    symm
    simp only [decide_eq_false (show ¬ (0 : Int) ≤ -1 by decide)]
    rw [List.any_eq_false]
    intro x hx
    have := h x hx
    simpa using this
  | some n =>
    obtain ⟨h1, h2, _⟩ := List.findIdx?_eq_some_iff_getElem.1 h
    symm
    simp only [decide_eq_true (show (0 : Int) ≤ (n : Int) by omega)]
    rw [List.any_eq_true]
    exact ⟨_, List.getElem_mem h1, h2⟩
theorem in_any (set : ByteArray) (c : UInt8) (b : Bool) (hb : set.data.toList.any (· == c) = b) (w : World) :
    Calls Tryd.prog 93 #[.string set, .int .u8 c.toNat] w fun e w' => e = .returned (.bool b) ∧ w = w' := by
  have h := index_has set.data.toList c
  rw [hb] at h
  have hi := fun w => index_any set c.toNat w
  have hc : (Int.toNat (c.toNat : Int)).toUInt8 = c := by simp
  rw [hc] at hi
  generalize Lib.indexByte set.data.toList c = z at h hi
  replace hi := Lib.hid hi
  clear hb hc
  cases b
  all_goals
    have h2 := h
    simp only [decide_eq_false_iff_not, decide_eq_true_eq] at h2
    clear h
    go_enter Tryd.func93, Tryd.ntmps93
    go_wp2_with fail
    refine (hi.out _).mono ?_
    rintro e w' ⟨rfl, rfl⟩
    go_wp2
    go_ret
    first | exact ⟨rfl, rfl⟩ | exact ⟨by simp; omega, rfl⟩ | exact ⟨by simp [h2], rfl⟩
theorem in_stops (c : UInt8) (b : Bool) (hb : stopB c = b) : (⟨#[32, 9, 10, 59]⟩ : ByteArray).data.toList.any (· == c) = b := by
  rw [← hb]; simp [stopB, blankB, endB, Bool.beq_comm (b := c), Bool.or_assoc]
theorem in_ends (c : UInt8) (b : Bool) (hb : endB c = b) : (⟨#[10, 59]⟩ : ByteArray).data.toList.any (· == c) = b := by
  rw [← hb]; simp [endB, Bool.beq_comm (b := c)]
theorem in_blanks (c : UInt8) (b : Bool) (hb : blankB c = b) : (⟨#[32, 9]⟩ : ByteArray).data.toList.any (· == c) = b := by
  rw [← hb]; simp [blankB, Bool.beq_comm (b := c)]
theorem in_quote (c : UInt8) (b : Bool) (hb : quoteB c = b) : (⟨#[34]⟩ : ByteArray).data.toList.any (· == c) = b := by
  rw [← hb]; simp [quoteB, Bool.beq_comm (b := c)]
theorem names_any (r : Nat) (hr : r < 2147483648) (w : World) : Calls Tryd.prog 111 #[.int .i32 r] w fun e w' => e = .returned (.bool (nameR r)) ∧ w = w' := by
  have h1 : (97 ≤ r ∧ r ≤ 122) ∨ (65 ≤ r ∧ r ≤ 90) ∨ (48 ≤ r ∧ r ≤ 57) ∨ r = 95 ∨ r < 48 ∨ (57 < r ∧ r < 65) ∨ (90 < r ∧ r < 95) ∨ r = 96 ∨ 122 < r := by omega
  obtain ⟨b, hb⟩ : ∃ b, nameR r = b := ⟨_, rfl⟩
  rw [hb]
  have hb' := hb
  simp only [nameR] at hb'
  replace hb' := Lib.hid hb'
  clear hb
  rcases h1 with h | h | h | h | h | h | h | h | h
  all_goals
    go_enter Tryd.func111, Tryd.ntmps111
    go_wp2
    go_ret
    refine ⟨?_, rfl⟩
    rw [← hb'.out]
    clear hb'
    simp
    (try rw [Bool.eq_iff_iff])
    (try simp)
    (try omega)

/-- strings.IndexFunc at 'no name's byte'. -/
theorem indexFunc_any (s : ByteArray) (hs : s.size ≤ 9223372036854775807) (w : World) :
    Calls Tryd.prog 113 #[.string s, .func (.func 110) #[] #[], .bool true] w fun e w' => e = .returned (.int .i64 (idxFrom (fun r => !nameR r) s s.size 0)) ∧ Below w.heap.size w w' := by
  have hp : ∀ (W : World) (r : Nat), r < 2147483648 → Calls Tryd.prog 110 #[.int .i32 r] W fun e w' => e = .returned (.bool (!nameR r)) ∧ W = w' := fun W r hr => by
    have hn := Lib.hid (fun w => names_any r hr w)
    go_enter Tryd.func110, Tryd.ntmps110
    go_wp2_with fail
    refine (hn.out _).mono ?_
    rintro e w' ⟨rfl, rfl⟩
    go_wp2
    go_ret
    exact ⟨rfl, rfl⟩
  replace hp := Lib.hid hp
  go_enter Tryd.func113, Tryd.ntmps113
  go_wp2
  go_loopg [] s.size (fun gf wx => ∃ pos : Nat, wx.heap[w.heap.size]? = some (.stringIter s pos) ∧ Below w.heap.size w wx ∧ Hid (idxFrom (fun r => !nameR r) s gf pos = idxFrom (fun r => !nameR r) s s.size 0) ∧ s.size ≤ pos + gf)
  case atStart => exact ⟨0, World.iter_heap w s 0, (Below.refl _ w).alloc (Nat.le_refl _) _, rfl, by omega⟩
  case round =>
    obtain ⟨pos, hit, hbw, hleft, hfu⟩ := hrel
    by_cases hps : pos < s.size
    · obtain ⟨g', rfl⟩ : ∃ g', gk = g' + 1 := ⟨gk - 1, by omega⟩
      have hnx : ∀ ty, (Instr.next (.pointer (some ⟨w.heap.size, 0, none⟩)) true ty).run Tryd.prog wr = _ := fun ty => Lib.run_next_any_at wr w.heap.size s pos ty hit hps
      have hwd := width_pos s pos
      have hrl := decode_lt s pos
      obtain ⟨R, hR⟩ : ∃ R, (Utf8.decode s pos).1 = R := ⟨_, rfl⟩
      obtain ⟨K, hK⟩ : ∃ K, (Utf8.decode s pos).2 = K := ⟨_, rfl⟩
      have hl := hleft.out
      simp only [idxFrom, hps, if_true, hR, hK] at hl
      rw [hR, hK] at hnx
      rw [hK] at hwd
      rw [hR] at hrl
      have hit2 := Lib.iterAt_heap wr w.heap.size s pos (pos + K) hit
      have hbw2 := Lib.below_iterAt hbw (k := w.heap.size) (Nat.le_refl _) s (pos + K)
      obtain ⟨W, hWd⟩ : ∃ W, wr.iterAt w.heap.size s (pos + K) = W := ⟨_, rfl⟩
      rw [hWd] at hnx hit2 hbw2
      have cS := hp.out W R hrl
      clear hp hleft
      cases hsp : nameR R <;> rw [hsp] at cS <;> simp only [hsp, Bool.not_true, Bool.not_false, if_true, Bool.false_eq_true, if_false] at hl cS
      · replace hl := Lib.hid hl
        replace cS := Lib.hid cS
        go_wp2_with fail
        refine cS.out.mono ?_
        rintro e W' ⟨rfl, rfl⟩
        go_wp2
        go_ret
        exact ⟨by rw [← hl.out]; rfl, hbw2⟩
      · replace hl := Lib.hid hl
        replace cS := Lib.hid cS
        go_wp2_with fail
        refine cS.out.mono ?_
        rintro e W' ⟨rfl, rfl⟩
        go_wp2
        go_roundg g'
        case measure => omega
        case rel => exact ⟨pos + K, hit2, hbw2, hl, by omega⟩
    · have hnx : ∀ ty, (Instr.next (.pointer (some ⟨w.heap.size, 0, none⟩)) true ty).run Tryd.prog wr = _ := fun ty => Lib.run_next_end_at wr w.heap.size s pos ty hit hps
      have hl := hleft.out
      rw [idxFrom_end _ s gk pos hps] at hl
      replace hl := Lib.hid hl
      clear hleft hp
      go_wp2
      go_ret
      exact ⟨by rw [← hl.out]; rfl, hbw⟩
theorem IndexFunc_any (s : ByteArray) (hs : s.size ≤ 9223372036854775807) (w : World) :
    Calls Tryd.prog 109 #[.string s, .func (.func 110) #[] #[]] w fun e w' => e = .returned (.int .i64 (if nameLen s.data.toList = s.size then -1 else (nameLen s.data.toList : Int))) ∧ Chg [] w w' := by
  have h := indexFunc_any s hs w
  rw [idx_name] at h
  generalize (if nameLen s.data.toList = s.size then (-1 : Int) else (nameLen s.data.toList : Int)) = z at h ⊢
  replace h := Lib.hid h
  go_enter Tryd.func109, Tryd.ntmps109
  go_wp2_with fail
  refine h.out.mono ?_
  rintro e w' ⟨rfl, hb⟩
  go_wp2
  go_ret
  exact ⟨rfl, Chg.of_below hb⟩

/-- The parser at block `g`. -/
def PS (w : World) (g : Nat) (s : ByteArray) (i at_ e : Int) : Prop := w.heap[g]? = some (.cells #[.string s, .int .i64 i, .int .i64 at_, .int .i64 e] 179 (0, 0))
theorem PS.chg {S : List Nat} {w w' : World} {g : Nat} {s : ByteArray} {i a e : Int} (h : PS w g s i a e) (hc : Chg S w w') (hg : g ∉ S) : PS w' g s i a e := hc.heap h hg
theorem PS.c0 {w : World} {g : Nat} {s : ByteArray} {i a e : Int} (h : PS w g s i a e) : w.cell? ⟨g, 0, none⟩ = some (.string s) ∧ w.cell? ⟨g, 1, none⟩ = some (.int .i64 i) ∧ w.cell? ⟨g, 2, none⟩ = some (.int .i64 a) ∧ w.cell? ⟨g, 3, none⟩ = some (.int .i64 e) := by
  unfold PS at h; simp [World.cell?, h]
theorem PS.f0 {w : World} {g : Nat} {s : ByteArray} {i a e : Int} (h : PS w g s i a e) (k : Nat) : w.frozen? ⟨g, k, none⟩ = false := by
  unfold PS at h; simp [World.frozen?, h]
theorem PS.put {w : World} {g : Nat} {s : ByteArray} {i a e : Int} (h : PS w g s i a e) (j : Int) : PS (w.setCell ⟨g, 1, none⟩ (.int .i64 j)) g s j a e := blk_set h 1 _
/-- What is wrong is noted the first time alone. -/
theorem fail_first (w : World) (g : Nat) (s : ByteArray) (i a p c : Int) (h : PS w g s i a 0) :
    Calls Tryd.prog 106 #[.pointer (some ⟨g, 0, none⟩), .int .i64 p, .int .i64 c] w fun e w' => e = .returned (.tuple #[]) ∧ PS w' g s s.size p c ∧ Chg [g] w w' := by
  obtain ⟨c0, c1, c2, c3⟩ := h.c0
  have f1 := h.f0 1
  have f2 := h.f0 2
  have f3 := h.f0 3
  have h' := Lib.hid h
  clear h
  go_enter Tryd.func106, Tryd.ntmps106
  go_wp2
  go_end0
  refine ⟨rfl, ?_, (((Chg.refl [g] w).setCell (.inl (by simp)) _).setCell (.inl (by simp)) _).setCell (.inl (by simp)) _⟩
  exact blk_set (blk_set (blk_set h'.out 2 _) 3 _) 1 _
theorem fail_again (w : World) (g : Nat) (s : ByteArray) (i a e p c : Int) (he : e ≠ 0) (h : PS w g s i a e) :
    Calls Tryd.prog 106 #[.pointer (some ⟨g, 0, none⟩), .int .i64 p, .int .i64 c] w fun e' w' => e' = .returned (.tuple #[]) ∧ PS w' g s s.size a e ∧ Chg [g] w w' := by
  obtain ⟨c0, c1, c2, c3⟩ := h.c0
  have f1 := h.f0 1
  have h' := Lib.hid h
  have he' : (e == 0) = false := by simpa using he
  clear h
  go_enter Tryd.func106, Tryd.ntmps106
  go_wp2
  go_end0
  exact ⟨rfl, blk_set h'.out 1 _, (Chg.refl [g] w).setCell (.inl (by simp)) _⟩
end Go.Proofs.YtncoedoiakaedaaDoor
