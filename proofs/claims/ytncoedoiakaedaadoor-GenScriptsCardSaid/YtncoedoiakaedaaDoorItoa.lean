/- The library's contract of strconv.Itoa, laid at this program: the laying is the text that the kit's tool lay-plain prints. Condition: the table of powers reads as it was laid. -/
import Derived.Shelf.Strconv.Itoa3
import Derived.Ground.NamesProg
import Derived.Test.YtncoedoiakaedaaDoorTclBr
import Derived.Test.YtncoedoiakaedaaDoorLib2
set_option linter.unusedVariables false
set_option linter.unusedSimpArgs false
namespace Go.Proofs.YtncoedoiakaedaaDoor
open Go.Shelf Go.RowKit Tcl
namespace Ev_
def lays171_ren : Go.Shelf.Ren := ⟨fun | 171 => 27 | 243 => 45 | 246 => 59 | 283 => 73 | 284 => 74 | 285 => 75 | 286 => 76 | 129 => 89 | 317 => 88 | 318 => 90 | 319 => 91 | 320 => 92 | 337 => 97 | 338 => 98 | n => n, fun | 3 => 3 | 9 => 9 | 2 => 2 | 4 => 4 | 171 => 151 | 0 => 0 | 53 => 152 | 37 => 35 | 5 => 5 | 173 => 155 | 212 => 170 | 51 => 171 | 20 => 20 | 213 => 172 | 46 => 38 | 232 => 190 | 233 => 191 | n => n, fun | 17 => 0 | 18 => 2 | 19 => 3 | n => n⟩
theorem lays171 : LaysM.n171 Tryd.prog lays171_ren := {
  mixed := by kernel_rfl
  f129 := Tryd.func89.trans (congrArg some (by kernel_rfl))
  f171 := Tryd.func27.trans (congrArg some (by kernel_rfl))
  f243 := Tryd.func45.trans (congrArg some (by kernel_rfl))
  f246 := Tryd.func59.trans (congrArg some (by kernel_rfl))
  f283 := Tryd.func73.trans (congrArg some (by kernel_rfl))
  f284 := Tryd.func74.trans (congrArg some (by kernel_rfl))
  f285 := Tryd.func75.trans (congrArg some (by kernel_rfl))
  f286 := Tryd.func76.trans (congrArg some (by kernel_rfl))
  f317 := Tryd.func88.trans (congrArg some (by kernel_rfl))
  f318 := Tryd.func90.trans (congrArg some (by kernel_rfl))
  f319 := Tryd.func91.trans (congrArg some (by kernel_rfl))
  f320 := Tryd.func92.trans (congrArg some (by kernel_rfl))
  f337 := Tryd.func97.trans (congrArg some (by kernel_rfl))
  f338 := Tryd.func98.trans (congrArg some (by kernel_rfl))
  t0 := Tryd.underlying0
  a0 := Tryd.isAgg0
  z0 := Tryd.sizeOf0
  v0 := Tryd.zeroValue0
  t2 := Tryd.underlying2
  a2 := Tryd.isAgg2
  z2 := Tryd.sizeOf2
  v2 := Tryd.zeroValue2
  t3 := Tryd.underlying3
  a3 := Tryd.isAgg3
  z3 := Tryd.sizeOf3
  v3 := Tryd.zeroValue3
  t4 := Tryd.underlying4
  a4 := Tryd.isAgg4
  z4 := Tryd.sizeOf4
  v4 := Tryd.zeroValue4
  t5 := Tryd.underlying5
  a5 := Tryd.isAgg5
  z5 := Tryd.sizeOf5
  v5 := Tryd.zeroValue5
  t9 := Tryd.underlying9
  a9 := Tryd.isAgg9
  z9 := Tryd.sizeOf9
  v9 := Tryd.zeroValue9
  t20 := Tryd.underlying20
  a20 := Tryd.isAgg20
  z20 := Tryd.sizeOf20
  v20 := Tryd.zeroValue20
  t37 := Tryd.underlying35
  a37 := Tryd.isAgg35
  z37 := Tryd.sizeOf35
  v37 := Tryd.zeroValue35
  t46 := Tryd.underlying38
  a46 := Tryd.isAgg38
  z46 := Tryd.sizeOf38
  v46 := Tryd.zeroValue38
  t51 := Tryd.underlying171
  a51 := Tryd.isAgg171
  z51 := Tryd.sizeOf171
  v51 := Tryd.zeroValue171
  t53 := Tryd.underlying152
  a53 := Tryd.isAgg152
  z53 := Tryd.sizeOf152
  v53 := Tryd.zeroValue152
  t171 := Tryd.underlying151
  a171 := Tryd.isAgg151
  z171 := Tryd.sizeOf151
  v171 := Tryd.zeroValue151
  t173 := Tryd.underlying155
  a173 := Tryd.isAgg155
  z173 := Tryd.sizeOf155
  v173 := Tryd.zeroValue155
  t212 := Tryd.underlying170
  a212 := Tryd.isAgg170
  z212 := Tryd.sizeOf170
  v212 := Tryd.zeroValue170
  t213 := Tryd.underlying172
  a213 := Tryd.isAgg172
  z213 := Tryd.sizeOf172
  t232 := Tryd.underlying190
  a232 := Tryd.isAgg190
  z232 := Tryd.sizeOf190
  v232 := Tryd.zeroValue190
  t233 := Tryd.underlying191
  a233 := Tryd.isAgg191
  z233 := Tryd.sizeOf191
  v233 := Tryd.zeroValue191
  g17 := by kernel_rfl
  g18 := by kernel_rfl
  g19 := by kernel_rfl
  i0 := by kernel_rfl
  i2 := by kernel_rfl
  i3 := by kernel_rfl
  i4 := by kernel_rfl
  i5 := by kernel_rfl
  i9 := by kernel_rfl
  i20 := by kernel_rfl
  i37 := by kernel_rfl
  i46 := by kernel_rfl
  i51 := by kernel_rfl
  i53 := by kernel_rfl
  i171 := by kernel_rfl
  i173 := by kernel_rfl
  i212 := by kernel_rfl
  i232 := by kernel_rfl
  i233 := by kernel_rfl
  m17 := by kernel_rfl
  m18 := by kernel_rfl
  m19 := by kernel_rfl }
/-- The table of powers of ten that strconv.Itoa reads. -/
def Pow10 (w : World) : Prop := Lib.TabIs Tryd.prog w "internal/strconv.uint64pow10" .u64 Lib.pow10Tab
theorem Pow10.chg {w w' : World} (h : Pow10 w) (hC : Chg [] w w') : Pow10 w' := by
  unfold Pow10 Lib.TabIs World.var? at h ⊢
  obtain ⟨g, hg, h2⟩ := Option.bind_eq_some_iff.1 h
  rw [hg]
  show (match w'.heap[g]? with | some (.cells cs _ _) => some cs | _ => none) = _
  cases hb : w.heap[g]? with
  | none => rw [hb] at h2; cases h2
  | some o =>
    rw [hC.heap hb (by simp)]
    rw [hb] at h2
    exact h2
theorem itoa_any (n : Int) (h0 : -9223372036854775808 ≤ n) (h1 : n ≤ 9223372036854775807) (w : World) (ht : Pow10 w) :
    Calls Tryd.prog 27 #[.int .i64 n] w fun e w' => e = .returned (.string (bstr (Lib.itoa n))) ∧ Chg [] w w' := by
  refine (Any.strconv_Itoa lays171 n h0 h1 w ht).mono ?_
  rintro e w' ⟨rfl, k, os, rfl⟩
  exact ⟨rfl, rfl, rfl, rfl, by show w.heap.size ≤ (w.heap ++ os).size; rw [Array.size_append]; omega, fun q hq _ => by show (w.heap ++ os)[q]? = w.heap[q]?; exact Array.getElem?_append_left hq⟩
end Ev_
end Go.Proofs.YtncoedoiakaedaaDoor
