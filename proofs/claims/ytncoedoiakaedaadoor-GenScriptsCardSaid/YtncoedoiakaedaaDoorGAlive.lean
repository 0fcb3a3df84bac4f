/- The document's example of layer 19. Condition: the table of tens. -/
import Derived.Test.YtncoedoiakaedaaDoorGs
import Derived.Lib.SlBytesConst
set_option linter.unusedVariables false
set_option linter.unusedSimpArgs false
namespace Go.Proofs.YtncoedoiakaedaaDoor
open Go.RowKit Tcl Tail Turn Tl Ev_ Ar Gn Ow
namespace Gs
@[go_sem] theorem conv_lit (W : World) (C : Array Value) (n c : Nat) : (convert 35 35 (.slice (some ⟨W.heap.size, 0, none⟩) n c)).run Tryd.prog (W.alloc (.cells C 5)) = .ok (.slice (some ⟨W.heap.size, 0, none⟩) n c) (W.alloc (.cells C 5 (C.size, C.size + 1))) :=
  Go.Lib.run_convert_bytes_const W 35 5 C n c Tryd.underlying35 Tryd.underlying5
@[go_sem] theorem conv_lit2 (W : World) (o : Obj) (C : Array Value) (n c : Nat) : (convert 35 35 (.slice (some ⟨W.heap.size + 1, 0, none⟩) n c)).run Tryd.prog ((W.alloc o).alloc (.cells C 5)) = .ok (.slice (some ⟨W.heap.size + 1, 0, none⟩) n c) ((W.alloc o).alloc (.cells C 5 (C.size, C.size + 1))) := by
  have h := conv_lit (W.alloc o) C n c
  rw [size_alloc] at h
  exact h
/-- A new row of elements of several cells. -/
theorem sl_rows_new (w : World) (cs : List Value) (e : TypeId) (fr : Nat × Nat) (sz n : Nat) (hn : cs.length = n * sz) (hm : n ≤ maxLen) : Sl (w.alloc (.cells cs.toArray e fr)) sz (.slice (some ⟨w.heap.size, 0, none⟩) n n) n cs := by
  refine ⟨_, n, rfl, by simp, Nat.le_refl _, hm, hn, fun _ => ⟨_, rfl, fun j u hu => ?_⟩⟩
  have ha : (⟨w.heap.size, 0, none⟩ : Addr).add j = ⟨w.heap.size, j, none⟩ := by unfold Addr.add; split <;> simp_all
  rw [ha]
  simp only [World.cell?, blk_new]
  simpa using hu
abbrev b1 : List UInt8 := [108, 111, 103, 105, 110, 58]
abbrev b2 : List UInt8 := [109, 101, 10]
abbrev exText : ByteArray := ⟨#[109, 97, 116, 99, 104, 95, 109, 97, 120, 32, 49, 10, 115, 101, 116, 32, 116, 105, 109, 101, 111, 117, 116, 32, 45, 49, 10, 115, 112, 97, 119, 110, 32, 112, 101, 101, 114, 10, 101, 120, 112, 101, 99, 116, 32, 123, 45, 101, 120, 97, 99, 116, 32, 34, 58, 34, 32, 123, 125, 32, 101, 111, 102, 32, 123, 101, 120, 105, 116, 32, 49, 125, 125, 10, 115, 101, 110, 100, 32, 34, 109, 101, 92, 48, 49, 50, 34, 10, 101, 120, 112, 101, 99, 116, 32, 101, 111, 102, 10, 101, 120, 105, 116, 32, 48, 10]⟩
theorem ex_text : scriptE [(0, b1), (1, b2)] 9 true = (exText, 0) := by
  unfold scriptE
  rw [if_neg (by omega), if_neg (by decide)]
  show (bstr (scriptT 9 (turnsI [(0, b1), (1, b2)]) true), (0 : Int)) = _
  kernel_rfl
set_option maxRecDepth 100000 in
set_option maxHeartbeats 4000000 in
theorem script_two (W : World) (o1 o2 : Obj) (htab : Pow10 W) (h1 : o1 = .cells (cellsOf .u8 (ns b1)).toArray 5 (6, 7)) (h2 : o2 = .cells (cellsOf .u8 (ns b2)).toArray 5 (3, 4)) (cs : Array Value) (h3 : cs = #[.int .i64 0, .int .i64 0, .slice (some ⟨W.heap.size, 0, none⟩) 6 6, .int .i64 1, .int .i64 0, .slice (some ⟨W.heap.size + 1, 0, none⟩) 3 3]) (B : Nat) (hB : B = W.heap.size + 2) :
    Calls Tryd.prog 11 #[.agg #[.slice (some ⟨B, 0, none⟩) 2 2, .bool true], .int .i64 9] (((W.alloc o1).alloc o2).alloc (.cells cs 37)) fun e w' => e = .returned (.tuple #[.string exText, .int .i64 0]) ∧ Chg [] W w' := by
  subst h1 h2 h3 hB
  have hC2 : Chg [] W ((W.alloc (.cells (cellsOf .u8 (ns b1)).toArray 5 (6, 7))).alloc (.cells (cellsOf .u8 (ns b2)).toArray 5 (3, 4))) := ((Chg.refl [] W).alloc _).alloc _
  have s1 := sl_rows_new W (cellsOf .u8 (ns b1)) 5 (6, 7) 1 6 (by rfl) (by simp [maxLen])
  have s2 := sl_rows_new (W.alloc (.cells (cellsOf .u8 (ns b1)).toArray 5 (6, 7))) (cellsOf .u8 (ns b2)) 5 (3, 4) 1 3 (by rfl) (by simp [maxLen])
  have s1' := s1.chg ((Chg.refl [] _).alloc (.cells (cellsOf .u8 (ns b2)).toArray 5 (3, 4))) (by simp)
  obtain ⟨V, hV⟩ : ∃ V, (W.alloc (.cells (cellsOf .u8 (ns b1)).toArray 5 (6, 7))).alloc (.cells (cellsOf .u8 (ns b2)).toArray 5 (3, 4)) = V := ⟨_, rfl⟩
  rw [hV] at hC2 s2 s1' ⊢
  have hz : V.heap.size = W.heap.size + 2 := by rw [← hV, size_alloc, size_alloc]
  rw [size_alloc] at s2
  have s3 := sl_rows_new V [.int .i64 0, .int .i64 0, .slice (some ⟨W.heap.size, 0, none⟩) 6 6, .int .i64 1, .int .i64 0, .slice (some ⟨W.heap.size + 1, 0, none⟩) 3 3] 37 (0, 0) 3 2 (by rfl) (by simp [maxLen])
  rw [hz] at s3
  obtain ⟨Z, hZ⟩ : ∃ Z, V.alloc (.cells #[.int .i64 0, .int .i64 0, .slice (some ⟨W.heap.size, 0, none⟩) 6 6, .int .i64 1, .int .i64 0, .slice (some ⟨W.heap.size + 1, 0, none⟩) 3 3] 37) = Z := ⟨_, rfl⟩
  have hC3 : Chg [] V Z := by rw [← hZ]; exact (Chg.refl [] V).alloc _
  rw [hZ] at s3 ⊢
  have hE : EvC Z ([] ++ [.int .i64 0, .int .i64 0, .slice (some ⟨W.heap.size, 0, none⟩) 6 6] ++ [.int .i64 1, .int .i64 0, .slice (some ⟨W.heap.size + 1, 0, none⟩) 3 3]) ([] ++ [(0, b1)] ++ [(1, b2)]) :=
    ((EvC.nil Z).snoc (0, b1) 0 (some ⟨W.heap.size, 0, none⟩) 6 (s1'.chg hC3 (by simp))).snoc (1, b2) 0 (some ⟨W.heap.size + 1, 0, none⟩) 3 (s2.chg hC3 (by simp))
  have h := script_any Z [(0, b1), (1, b2)] (some ⟨W.heap.size + 2, 0, none⟩) 2 2 _ true 9 rfl s3 hE (htab.chg (hC2.trans hC3))
  rw [ex_text] at h
  exact h.mono (fun e w' hh => ⟨hh.1, (hC2.trans hC3).trans hh.2⟩)
set_option maxRecDepth 100000 in
set_option maxHeartbeats 4000000 in
theorem alive_any (w : World) (htab : Pow10 w) : Calls Tryd.prog 9 #[] w fun e w' => e = .returned (.bool true) ∧ Chg [] w w' := by
  replace htab := Lib.hid htab
  go_enter Tryd.func9, Tryd.ntmps9
  go_wp2_with fail
  refine (script_two w _ _ htab.out rfl rfl _ rfl _ rfl).mono ?_
  rintro e w2 ⟨rfl, hC⟩
  replace hC := Lib.hid hC
  go_wp2_with fail
  go_ret
  exact ⟨rfl, hC.out⟩
end Gs
end Go.Proofs.YtncoedoiakaedaaDoor
