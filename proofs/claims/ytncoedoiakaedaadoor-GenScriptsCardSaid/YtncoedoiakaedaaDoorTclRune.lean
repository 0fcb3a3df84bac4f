/- Where a name endB, as strings.IndexFunc tells it. No condition. -/
import Derived.Test.YtncoedoiakaedaaDoorTclEqs
import Derived.Laws.RangeString
set_option linter.unusedVariables false
set_option linter.unusedSimpArgs false
namespace Go.Proofs.YtncoedoiakaedaaDoor
namespace Tcl
/-- strings.indexFunc(s, f, true), from place pos on, by at most so many runes. -/
def idxFrom (p : Nat → Bool) (s : ByteArray) : Nat → Nat → Int
  | 0, _ => -1
  | f + 1, pos => if pos < s.size then (if p (Utf8.decode s pos).1 = true then (pos : Int) else idxFrom p s f (pos + (Utf8.decode s pos).2)) else -1
theorem idxFrom_end (p : Nat → Bool) (s : ByteArray) (f pos : Nat) (h : ¬ pos < s.size) : idxFrom p s f pos = -1 := by cases f <;> simp [idxFrom, h]
def nameR (r : Nat) : Bool := (decide (97 ≤ r) && decide (r ≤ 122)) || (decide (65 ≤ r) && decide (r ≤ 90)) || (decide (48 ≤ r) && decide (r ≤ 57)) || decide (r = 95)
theorem nameR_byte (c : UInt8) : nameR c.toNat = nameB c := by
  have h95 : (c == 95) = decide (c.toNat = 95) := by
    rw [Bool.eq_iff_iff]; simp only [beq_iff_eq, decide_eq_true_eq]
    exact ⟨fun h => by rw [h]; rfl, fun h => UInt8.toNat_inj.1 (by simpa using h)⟩
  simp only [nameR, nameB, h95, UInt8.le_iff_toNat_le]
  rfl
theorem nameR_high {r : Nat} (h : 128 ≤ r) : nameR r = false := by
  simp [nameR]; omega
theorem decode_low {s : ByteArray} {i : Nat} (h : (s.get! i).toNat < 128) : Utf8.decode s i = ((s.get! i).toNat, 1) := by
  simp [Utf8.decode, h]
theorem decode_high {s : ByteArray} {i : Nat} (h : 128 ≤ (s.get! i).toNat) : 128 ≤ (Utf8.decode s i).1 := by
  unfold Utf8.decode
  simp only [Nat.add_zero]
  rw [if_neg (by omega)]
  split
  · split
    · rename_i h1; exact h1
    · decide
  · split
    · split
      · rename_i h1; simp only [Bool.and_eq_true, decide_eq_true_eq] at h1; exact Nat.le_trans (by decide) h1.1
      · decide
    · split
      · split
        · rename_i h1; simp only [Bool.and_eq_true, decide_eq_true_eq] at h1; exact Nat.le_trans (by decide) h1.1
        · decide
      · decide
theorem width_pos (s : ByteArray) (i : Nat) : 1 ≤ (Utf8.decode s i).2 := by
  unfold Utf8.decode
  simp only [Nat.add_zero]
  split
  · exact Nat.le_refl _
  · split
    · split <;> simp
    · split
      · split <;> simp
      · split
        · split <;> simp
        · simp
theorem decode_lt (s : ByteArray) (i : Nat) : (Utf8.decode s i).1 < 2147483648 := by
  have hb : ∀ k, (s.get! k).toNat < 256 := fun k => (s.get! k).toNat_lt
  have h0 := hb i
  have h1 := hb (i + 1)
  have h2 := hb (i + 2)
  have h3 := hb (i + 3)
  unfold Utf8.decode
  simp only [Nat.add_zero]
  split
  · simp only; omega
  · split
    · split
      · simp only; omega
      · decide
    · split
      · split
        · simp only; omega
        · decide
      · split
        · split
          · simp only; omega
          · decide
        · decide
theorem get_bang {s : ByteArray} {i : Nat} (h : i < s.size) : s.data.toList[i]? = some (s.get! i) := by
  have h1 : i < s.data.size := h
  rw [Array.getElem?_toList, Array.getElem?_eq_getElem h1]
  simp [ByteArray.get!, getElem!_def, Array.getElem?_eq_getElem h1]
theorem idx_names (s : ByteArray) : ∀ (f pos : Nat), pos ≤ s.size → s.size - pos ≤ f →
    idxFrom (fun r => !nameR r) s f pos = if nameLen (s.data.toList.drop pos) = s.size - pos then -1 else ((pos + nameLen (s.data.toList.drop pos) : Nat) : Int) := by
  have hl : s.data.toList.length = s.size := by rw [Array.length_toList]; rfl
  intro f
  induction f with
  | zero =>
    intro pos h1 h2
    have : s.data.toList.drop pos = [] := List.drop_eq_nil_of_le (by omega)
    rw [this, if_pos (by simp [nameLen]; omega)]; rfl
  | succ f ih =>
    intro pos h1 h2
    by_cases hp : pos < s.size
    · have hd : s.data.toList.drop pos = s.get! pos :: s.data.toList.drop (pos + 1) := by
        obtain ⟨h3, h4⟩ := List.getElem?_eq_some_iff.1 (get_bang hp)
        rw [List.drop_eq_getElem_cons h3, h4]
      rw [idxFrom, if_pos hp, hd, nameLen]
      cases hn : nameB (s.get! pos) with
      | true =>
        have hlow : (s.get! pos).toNat < 128 := by
          rw [← nameR_byte] at hn
          rcases Nat.lt_or_ge (s.get! pos).toNat 128 with h | h
          · exact h
          · rw [nameR_high h] at hn; cases hn
        rw [decode_low hlow]
        simp only [nameR_byte, hn, Bool.not_true, Bool.false_eq_true, if_false, if_true]
        rw [ih (pos + 1) (by omega) (by omega)]
        by_cases h5 : nameLen (s.data.toList.drop (pos + 1)) = s.size - (pos + 1)
        · rw [if_pos h5, if_pos (by omega)]
        · rw [if_neg h5, if_neg (by omega)]; omega
      | false =>
        have hr : nameR (Utf8.decode s pos).1 = false := by
          rcases Nat.lt_or_ge (s.get! pos).toNat 128 with h | h
          · rw [decode_low h, nameR_byte]; exact hn
          · exact nameR_high (decode_high h)
        simp only [hr, Bool.not_false, if_true, Bool.false_eq_true, if_false]
        rw [if_neg (by omega)]; simp
    · have : s.data.toList.drop pos = [] := List.drop_eq_nil_of_le (by omega)
      rw [idxFrom_end _ _ _ _ hp, this, if_pos (by simp [nameLen]; omega)]
theorem idx_name (s : ByteArray) : idxFrom (fun r => !nameR r) s s.size 0 = if nameLen s.data.toList = s.size then -1 else (nameLen s.data.toList : Int) := by
  rw [idx_names s s.size 0 (by omega) (by omega)]
  simp
end Tcl
end Go.Proofs.YtncoedoiakaedaaDoor
