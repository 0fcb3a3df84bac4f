/- Contracts of package glob: the things of a pattern, whether a text is like them. Conditions: as each states. -/
import Derived.Test.YtojgdmpnbgikeaaProg
import Derived.Test.YtojgdmpnbgikeaaLib
import Derived.Test.YtojgdmpnbgikeaaLib2
import Derived.Test.YtojgdmpnbgikeaaGlobSpec
import Derived.Lib.Bytealg
import Derived.ChangeAlike
import Derived.RegionTactic
import Derived.Deep.QuietTactic
import Derived.BigQuiet
import Derived.Deep.RegionLaw
import Derived.Deep.RegionWith
import Derived.Deep.RegionHeld3
import Derived.Deep.LoopGhost
set_option linter.unusedVariables false
set_option linter.unusedSimpArgs false
namespace Go.Proofs.Ytojgdmpnbgikeaa
open Go.RowKit Glob

/-- The value `v` is the thing `t`. -/
def IsTh (w : World) (v : Value) : Th → Prop
  | .any => v = .nilFunc
  | .one => v = .func (.func 46) #[] #[]
  | .lit c => ∃ b, v = .func (.func 49) #[] #[.pointer (some ⟨b, 0, none⟩)] ∧ w.heap[b]? = some (.cells #[.int .u8 c.toNat] 5 (0, 0))
  | .set l => ∃ b cs, v = .func (.func 54) #[] #[.pointer (some ⟨b, 0, none⟩)] ∧ w.heap[b]? = some (.cells cs 78 (0, 0)) ∧ cs.size = 256 ∧ ∀ c : UInt8, cs[c.toNat]? = some (.bool (setHas l c))
theorem IsTh.chg {S : List Nat} {w w' : World} {v : Value} {t : Th} (h : IsTh w v t) (hc : Chg S w w') (hS : ∀ k ∈ S, ∃ cs f, w.heap[k]? = some (.cells cs 92 f)) : IsTh w' v t := by
  have hb : ∀ (b : Nat) (cs : Array Value) (T : TypeId), T ≠ 92 → w.heap[b]? = some (.cells cs T (0, 0)) → w'.heap[b]? = some (.cells cs T (0, 0)) := by
    intro b cs T hT hb
    refine hc.heap hb (fun hm => ?_)
    obtain ⟨cs', f, e⟩ := hS b hm
    rw [hb] at e; simp at e; exact hT e.2.1
  cases t with
  | any => exact h
  | one => exact h
  | lit c => obtain ⟨b, h1, h2⟩ := h; exact ⟨b, h1, hb b _ _ (by decide) h2⟩
  | set l => obtain ⟨b, cs, h1, h2, h3⟩ := h; exact ⟨b, cs, h1, hb b _ _ (by decide) h2, h3⟩

theorem one_any (c : Int) (w : World) : Calls Try.prog 46 #[.int .u8 c] w fun e w' => e = .returned (.bool true) ∧ w = w' := by
  go_enter Try.func46, Try.ntmps46
  go_wp2
  go_ret
  exact ⟨rfl, rfl⟩
theorem u8_eq (c d : UInt8) : (((d.toNat : Int)) == (c.toNat : Int)) = (d == c) := by
  rw [Bool.eq_iff_iff]; simp only [beq_iff_eq]
  exact ⟨fun h => UInt8.toNat_inj.1 (by omega), fun h => by rw [h]⟩
theorem lit_any (c d : UInt8) (b : Nat) (w : World) (h : w.heap[b]? = some (.cells #[.int .u8 c.toNat] 5 (0, 0))) :
    Calls Try.prog 49 #[.int .u8 d.toNat, .pointer (some ⟨b, 0, none⟩)] w fun e w' => e = .returned (.bool (d == c)) ∧ w = w' := by
  have hc : w.cell? ⟨b, 0, none⟩ = some (.int .u8 c.toNat) := by simp [World.cell?, h]
  clear h
  have hq := u8_eq c d
  replace hq := Lib.hid hq
  go_enter Try.func49, Try.ntmps49
  go_wp2
  go_ret
  rw [← hq.out]
  exact ⟨rfl, rfl⟩
theorem set1_any (l : List UInt8) (d : UInt8) (b : Nat) (cs : Array Value) (w : World) (h : w.heap[b]? = some (.cells cs 78 (0, 0))) (hs : cs.size = 256) (hc : cs[d.toNat]? = some (.bool (setHas l d))) :
    Calls Try.prog 54 #[.int .u8 d.toNat, .pointer (some ⟨b, 0, none⟩)] w fun e w' => e = .returned (.bool (setHas l d)) ∧ w = w' := by
  have h1 : (d.toNat : Int) < 256 := by have := d.toNat_lt; omega
  have h0 : (0 : Int) ≤ d.toNat := by omega
  have hcell : w.cell? ⟨b, d.toNat, none⟩ = some (.bool (setHas l d)) := by simp [World.cell?, h, hc]
  clear h hc hs
  generalize setHas l d = x at hcell
  go_enter Try.func54, Try.ntmps54
  go_wp2
  go_ret
  exact ⟨rfl, rfl⟩

theorem setHas_one (a c : UInt8) (r : List UInt8) (h : ∀ d r', r ≠ 45 :: d :: r') : setHas (a :: r) c = ((a == c) || setHas r c) := by
  match r with
  | [] => simp [setHas]
  | [b] => simp [setHas]
  | b :: d :: r' =>
    have hb : b ≠ 45 := fun e => h d r' (by rw [e])
    rw [setHas, if_neg hb]
theorem setHas_range (a d c : UInt8) (r : List UInt8) : setHas (a :: 45 :: d :: r) c = ((decide (a ≤ c) && decide (c ≤ d)) || setHas r c) := by
  rw [setHas, if_pos rfl]
/-- 256 bools. -/
def Bits (w : World) (b : Nat) (x : UInt8 → Bool) : Prop := ∃ cs, w.heap[b]? = some (.cells cs 78 (0, 0)) ∧ cs.size = 256 ∧ ∀ c : UInt8, cs[c.toNat]? = some (.bool (x c))
theorem Bits.cell {w : World} {b : Nat} {x : UInt8 → Bool} (h : Bits w b x) (c : UInt8) : w.cell? ⟨b, c.toNat, none⟩ = some (.bool (x c)) := by
  obtain ⟨cs, h1, h2, h3⟩ := h; simp [World.cell?, h1, h3]
theorem Bits.frozen {w : World} {b : Nat} {x : UInt8 → Bool} (h : Bits w b x) (c : UInt8) : w.frozen? ⟨b, c.toNat, none⟩ = false := by
  obtain ⟨cs, h1, h2, h3⟩ := h; simp [World.frozen?, h1]
theorem Bits.put {w : World} {b : Nat} {x : UInt8 → Bool} (h : Bits w b x) (a : UInt8) : Bits (w.setCell ⟨b, a.toNat, none⟩ (.bool true)) b (fun c => a == c || x c) := by
  obtain ⟨cs, h1, h2, h3⟩ := h
  refine ⟨_, blk_set h1 _ _, by simpa using h2, fun c => ?_⟩
  rw [Array.getElem?_setIfInBounds]
  by_cases e : a = c
  · subst e; have := a.toNat_lt; simp [h2]; omega
  · have : a.toNat ≠ c.toNat := fun e' => e (UInt8.toNat_inj.1 e')
    rw [if_neg this, h3 c]
    simp [e]
theorem Bits.congr {w : World} {b : Nat} {x y : UInt8 → Bool} (h : Bits w b x) (e : ∀ c, x c = y c) : Bits w b y := by
  have : x = y := funext e
  rw [← this]; exact h
theorem Bits.chg {S : List Nat} {w w' : World} {b : Nat} {x : UInt8 → Bool} (h : Bits w b x) (hc : Chg S w w') (hb : b ∉ S) : Bits w' b x := by
  obtain ⟨cs, h1, h2, h3⟩ := h; exact ⟨cs, hc.heap h1 hb, h2, h3⟩

theorem byte_at (s : ByteArray) (i : Nat) (h : i < s.size) : s.data.toList[i]? = some (s[i]'h) := by
  rw [Array.getElem?_toList]; exact Array.getElem?_eq_getElem h
theorem drop_at {l : List UInt8} {i : Nat} {a : UInt8} (h : l[i]? = some a) : l.drop i = a :: l.drop (i + 1) := by
  obtain ⟨h1, h2⟩ := List.getElem?_eq_some_iff.1 h
  rw [List.drop_eq_getElem_cons h1, h2]

def SetEnd (w : World) (l : List UInt8) (e : Ending) (w' : World) : Prop :=
  ∃ b, e = .returned (.func (.func 54) #[] #[.pointer (some ⟨b, 0, none⟩)]) ∧ Bits w' b (setHas l) ∧ Chg [] w w' ∧ w.heap.size ≤ b
/-- The array's zero value, under a name. -/
def Try.zeroCells78 : Array Value := Array.replicate 256 (.bool false)
@[go_sem] theorem Try.zeroValue78 (w : World) : (zeroValue 78).run Try.prog w = .ok (.agg Try.zeroCells78) w := by kernel_rfl
@[go_sem, simp] theorem Try.zc_size : Try.zeroCells78.size = 256 := by kernel_rfl
@[simp] theorem Try.zc_ne : Try.zeroCells78 ≠ #[] := fun e => by have := congrArg Array.size e; simp at this
theorem zero_bits : Try.zeroCells78 = Array.replicate 256 (.bool false) := by kernel_rfl
set_option maxRecDepth 100000 in
set_option maxHeartbeats 1000000 in
theorem set_any (s : ByteArray) (hs : s.size ≤ 1024) (w : World) : Calls Try.prog 48 #[.string s] w (SetEnd w s.data.toList) := by
  have hz : Bits (w.alloc (.cells Try.zeroCells78 78)) w.heap.size (fun _ => false) := by
    rw [zero_bits]
    exact ⟨_, blk_new _ _, Array.size_replicate, fun c => by rw [Array.getElem?_replicate, if_pos (by have := c.toNat_lt; omega)]⟩
  replace hz := Lib.hid hz
  obtain ⟨l, hl⟩ : ∃ l, l = s.data.toList := ⟨_, rfl⟩
  have hls : l.length = s.size := by rw [hl, Array.length_toList]; rfl
  have hby : ∀ i (h : i < s.size), l[i]? = some (s[i]'h) := fun i h => by rw [hl]; exact byte_at s i h
  rw [← hl]
  replace hls := Lib.hid hls
  replace hby := Lib.hid hby
  clear hl
  go_enter Try.func48, Try.ntmps48
  go_wp2_with fail
  go_loopw [4] (fun i wr => ∃ (k : Nat) (x : UInt8 → Bool), k ≤ s.size ∧ i = .int .i64 k ∧ Bits wr w.heap.size x ∧ Hid (∀ c, (x c || setHas (l.drop k) c) = setHas l c) ∧ Chg [] w wr) (fun i _ => s.size - (intOf i).toNat)
  case atStart => exact ⟨0, _, by omega, rfl, hz.out, (show ∀ c, _ by intro c; simp), (Chg.refl _ _).alloc _⟩
  case round =>
    obtain ⟨k, x, hk, rfl, hB, hx, hC⟩ := hrel
    by_cases hlt : k < s.size
    · obtain ⟨a, ha⟩ : ∃ a, a = s[k]'hlt := ⟨_, rfl⟩
      have hla := drop_at ((hby.out k hlt).trans (by rw [← ha]))
      have ha' := ha.symm
      have hcell := hB.cell a
      have hfr := hB.frozen a
      have hput := hB.put a
      have hCp : Chg [] w (wr.setCell ⟨w.heap.size, a.toNat, none⟩ (.bool true)) := hC.setCell (.inr (Nat.le_refl _)) _
      have h256 : (a.toNat : Int) < 256 := by have := a.toNat_lt; omega
      have h0 : (0 : Int) ≤ a.toNat := by omega
      by_cases hr : k + 2 < s.size ∧ ∃ h, s[k + 1]'h = 45
      · obtain ⟨hr1, hr2, hr3⟩ := hr
        obtain ⟨d, hd⟩ : ∃ d, d = s[k + 2]'hr1 := ⟨_, rfl⟩
        have h1 := drop_at ((hby.out (k + 1) (by omega)).trans (by rw [hr3]))
        have h2 := drop_at ((hby.out (k + 2) (by omega)).trans (by rw [← hd]))
        have hrange : ∀ c, (setHas (l.drop k) c) = ((decide (a ≤ c) && decide (c ≤ d)) || setHas (l.drop (k + 3)) c) := by
          intro c
          rw [hla, h1, h2]; exact setHas_range a d c _
        have hx' : Hid (∀ c, ((x c || (decide (a ≤ c) && decide (c ≤ d))) || setHas (l.drop (k + 3)) c) = setHas l c) := by
          show ∀ c, _
          intro c
          rw [← hx.out c, hrange c]
          cases x c <;> cases (decide (a ≤ c) && decide (c ≤ d)) <;> cases setHas (l.drop (k + 3)) c <;> rfl
        have hd' := hd.symm
        have hb : (((s[k + 1]'(by omega)).toNat : Int) != 45) = false := by rw [hr3]; rfl
        have hd256 : (d.toNat : Int) < 256 := by have := d.toNat_lt; omega
        have hd0 : (0 : Int) ≤ d.toNat := by omega
        clear hx hrange h1 h2 hla ha hd hr3 hput hCp hcell hfr
        obtain ⟨wo, rfl⟩ : ∃ wo : World, wo = wr := ⟨_, rfl⟩
        go_wp2_with fail
        go_loopw [5] (fun i wx => ∃ (c : Nat), a.toNat ≤ c ∧ (c ≤ a.toNat ∨ c ≤ d.toNat + 1) ∧ i = .int .i64 c ∧ Bits wx w.heap.size (fun z => x z || (decide (a ≤ z) && decide (z.toNat < c))) ∧ Chg [] w wx) (fun i _ => 257 - (intOf i).toNat)
        case atStart =>
          refine ⟨a.toNat, Nat.le_refl _, .inl (Nat.le_refl _), rfl, hB.congr (fun z => ?_), hC⟩
          rw [Bool.eq_iff_iff]; simp [UInt8.le_iff_toNat_le]; omega
        case round =>
          obtain ⟨c, hc1, hc2, rfl, hB, hC⟩ := hrel
          by_cases hcd : c ≤ d.toNat
          · obtain ⟨cz, hcz⟩ : ∃ cz : UInt8, cz.toNat = c := ⟨UInt8.ofNat c, by simp; omega⟩
            subst hcz
            have hcell := hB.cell cz
            have hfr := hB.frozen cz
            have hput := (hB.put cz).congr (y := fun z => x z || (decide (a ≤ z) && decide (z.toNat < cz.toNat + 1))) (fun z => by
              rw [Bool.eq_iff_iff]; simp only [Bool.or_eq_true, Bool.and_eq_true, beq_iff_eq, decide_eq_true_eq, UInt8.le_iff_toNat_le]
              constructor
              · rintro (h | h | h)
                · subst h; exact .inr ⟨hc1, by omega⟩
                · exact .inl h
                · exact .inr ⟨h.1, by omega⟩
              · rintro (h | h)
                · exact .inr (.inl h)
                · by_cases e : z.toNat = cz.toNat
                  · exact .inl (UInt8.toNat_inj.1 e.symm)
                  · exact .inr (.inr ⟨h.1, by omega⟩))
            have hCp : Chg [] w (wr.setCell ⟨w.heap.size, cz.toNat, none⟩ (.bool true)) := hC.setCell (.inr (Nat.le_refl _)) _
            have hz256 : (cz.toNat : Int) < 256 := by omega
            have hz0 : (0 : Int) ≤ cz.toNat := by omega
            replace hput := Lib.hid hput
            replace hCp := Lib.hid hCp
            clear hB hC
            go_wp2_with fail
            go_roundw
            case rel => exact ⟨cz.toNat + 1, by omega, by omega, by go_num, hput.out, hCp.out⟩
            case measure => simp [intOf]; omega
          · have hfin : Bits wr w.heap.size (fun z => x z || (decide (a ≤ z) && decide (z ≤ d))) := hB.congr (fun z => by
              rw [Bool.eq_iff_iff]; simp only [Bool.or_eq_true, Bool.and_eq_true, decide_eq_true_eq, UInt8.le_iff_toNat_le]
              constructor
              · rintro (h | h)
                · exact .inl h
                · exact .inr ⟨h.1, by omega⟩
              · rintro (h | h)
                · exact .inl h
                · exact .inr ⟨h.1, by omega⟩)
            replace hfin := Lib.hid hfin
            clear hB
            go_wp2_with fail
            go_roundw
            case rel => exact ⟨k + 3, _, by omega, by go_num, hfin.out, hx', hC⟩
            case measure => simp [intOf]; omega
      · have hone : ∀ c, (setHas (l.drop k) c) = ((a == c) || setHas (l.drop (k + 1)) c) := by
          intro c
          rw [hla]
          refine setHas_one a c _ (fun d r' e => hr ?_)
          have h1 : (l.drop (k + 1)).length ≥ 2 := by rw [e]; simp
          have h2 := hls.out
          simp only [List.length_drop] at h1
          have h3 := drop_at (hby.out (k + 1) (by omega))
          rw [h3] at e
          exact ⟨by omega, by omega, by simpa using (List.cons.inj e).1⟩
        have hx' : Hid (∀ c, ((a == c || x c) || setHas (l.drop (k + 1)) c) = setHas l c) := by
          show ∀ c, _
          intro c
          rw [← hx.out c, hone c]
          cases (a == c) <;> cases x c <;> cases setHas (l.drop (k + 1)) c <;> rfl
        replace hput := Lib.hid hput
        replace hCp := Lib.hid hCp
        clear hB hC hx hone hla ha
        by_cases hr1 : k + 2 < s.size
        · have h45 : ((s[k + 1]'(by omega)).toNat : Int) ≠ 45 := fun e => hr ⟨hr1, by omega, UInt8.toNat_inj.1 (by simpa using (by omega : (s[k + 1]'(by omega)).toNat = 45))⟩
          clear hr
          have hb : (((s[k + 1]'(by omega)).toNat : Int) != 45) = true := by simpa using h45
          clear h45
          go_wp2_with fail
          go_roundw
          case rel => exact ⟨k + 1, _, by omega, by go_num, hput.out, hx', hCp.out⟩
          case measure => simp [intOf]; omega
        · clear hr
          go_wp2_with fail
          go_roundw
          case rel => exact ⟨k + 1, _, by omega, by go_num, hput.out, hx', hCp.out⟩
          case measure => simp [intOf]; omega
    · have hks : k = s.size := by omega
      subst hks
      have hfin : Bits wr w.heap.size (setHas l) := hB.congr (fun c => by
        have := hx.out c
        rw [List.drop_eq_nil_of_le (by rw [hls.out]; omega)] at this
        simpa [setHas] using this)
      clear hB hx
      go_wp2
      go_ret
      exact ⟨_, rfl, hfin, hC, Nat.le_refl _⟩
end Go.Proofs.Ytojgdmpnbgikeaa
