/- Slices of bytes that came in, as lists of bytes; numbers that came in. No condition. -/
import Derived.Test.YtncoedoiakaedaaDoorLib2
import Derived.Test.YtncoedoiakaedaaDoorReads
import Derived.Test.YtncoedoiakaedaaDoorTclBr
set_option linter.unusedVariables false
set_option linter.unusedSimpArgs false
namespace Go.Proofs.YtncoedoiakaedaaDoor
open Go.RowKit
theorem u8_of_reads {w : World} {u : Value} {d : Dt} (h : Reads w (.int .u8) u d) : ∃ c : UInt8, u = .int .u8 c.toNat := by
  cases h with
  | int h =>
    rename_i n
    have h' : IntKind.u8.min ≤ n ∧ n ≤ IntKind.u8.max := by simpa [Lit.wf] using h
    have m1 : IntKind.u8.min = 0 := rfl
    have m2 : IntKind.u8.max = 255 := rfl
    rw [m1, m2] at h'
    refine ⟨UInt8.ofNat n.toNat, ?_⟩
    have : (UInt8.ofNat n.toNat).toNat = n.toNat := by
      show n.toNat % 256 = n.toNat
      omega
    rw [this]; congr 1; omega
theorem i64_of_reads {w : World} {u : Value} {d : Dt} (h : Reads w (.int .i64) u d) : ∃ n : Int, u = .int .i64 n ∧ -9223372036854775808 ≤ n ∧ n ≤ 9223372036854775807 := by
  cases h with
  | int h =>
    rename_i n
    have h' : IntKind.i64.min ≤ n ∧ n ≤ IntKind.i64.max := by simpa [Lit.wf] using h
    have m1 : IntKind.i64.min = -9223372036854775808 := rfl
    have m2 : IntKind.i64.max = 9223372036854775807 := rfl
    rw [m1, m2] at h'
    exact ⟨n, rfl, h'⟩
def u8s (l : List UInt8) : List Value := l.map fun c => .int .u8 c.toNat
theorem u8s_of_reads {w : World} {v : Value} {d : Dt} (h : Reads w (.sl [.int .u8]) v d) : ∃ A c bs, v = .slice A (List.length bs) c ∧ Sl w 1 v bs.length (u8s bs) ∧ bs.length ≤ c ∧ c ≤ maxLen := by
  cases h with
  | @sl fs A n c rows u h0 h1 h2 hl hw hc hr =>
    have key : ∀ i, i < n → ∃ b : UInt8, u i 0 = .int .u8 b.toNat := fun i hi => by
      obtain ⟨row, hr1, hr2⟩ := hw i hi
      match row, hr2 with
      | [d0], _ => exact u8_of_reads (hr i 0 _ _ d0 hr1 rfl rfl)
    obtain ⟨bs, hb1, hb2⟩ := exists_rows n (fun i (b : UInt8) => u i 0 = .int .u8 b.toNat) key
    subst hb1
    refine ⟨A, c, bs, rfl, ⟨A, c, rfl, h0, h1, h2, by simp [u8s], fun hx => ?_⟩, h1, h2⟩
    obtain ⟨a, ha, _⟩ := hc 0 0 (by simpa [u8s] using hx) (by simp)
    refine ⟨a, ha, fun j x hj => ?_⟩
    have hjl : j < bs.length := by have := (List.getElem?_eq_some_iff.1 hj).1; simpa [u8s] using this
    obtain ⟨a', ha', hc'⟩ := hc j 0 hjl (by simp)
    rw [ha] at ha'; cases ha'
    have := hb2 j _ (List.getElem?_eq_getElem hjl)
    simp only [List.length_cons, List.length_nil, Nat.zero_add, Nat.mul_one, Nat.add_zero] at hc'
    rw [hc', this]
    simp only [u8s, List.getElem?_map, List.getElem?_eq_getElem hjl, Option.map_some] at hj
    exact hj
attribute [go_sem] bstr_size List.length_cons List.length_nil
/-- One byte as a string. -/
@[go_sem] theorem conv_one (W : World) (b : UInt8) :
    (convert 35 9 (.slice (some ⟨W.heap.size, 0, none⟩) 1 1)).run Tryd.prog (W.alloc (.cells #[.int .u8 b.toNat] 5)) = .ok (.string (bstr [b])) (W.alloc (.cells #[.int .u8 b.toNat] 5)) := by
  have h := sl_new W (cellsOf .u8 [(b.toNat : Int)]) 5 1 rfl (by simp [maxLen])
  have := sl_string (P := Tryd.prog) h 35 5 9 Tryd.underlying35 Tryd.underlying5 Tryd.underlying9
  have e : strOfNums [(b.toNat : Int)] = bstr [b] := by
    simp [strOfNums, bstr]
  rw [e] at this
  exact this
theorem bstr_of {z : ByteArray} {l : List UInt8} (h : z.data.toList = l) : z = bstr l := by subst h; rfl
theorem app_list (s t : ByteArray) : (s ++ t).data.toList = s.data.toList ++ t.data.toList := by
  rw [ByteArray.data_append, Array.toList_append]
theorem bstr_app (s t : List UInt8) : bstr s ++ bstr t = bstr (s ++ t) := bstr_of (app_list _ _)
end Go.Proofs.YtncoedoiakaedaaDoor
