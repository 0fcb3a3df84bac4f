/- The document's examples of layer 15. No condition. -/
import Derived.Test.YtojgdmpnbgikeaaFirst
import Derived.Lib.SlBytesConst
set_option linter.unusedVariables false
set_option linter.unusedSimpArgs false
namespace Go.Proofs.Ytojgdmpnbgikeaa
open Go.RowKit PMatchFeeds YtojgdmpnbgikeaaW.PrintWords
namespace Mt
open Kmp Glob
@[go_sem] theorem conv_lit (W : World) (C : Array Value) (n c : Nat) : (convert 22 22 (.slice (some ⟨W.heap.size, 0, none⟩) n c)).run Try.prog (W.alloc (.cells C 5)) = .ok (.slice (some ⟨W.heap.size, 0, none⟩) n c) (W.alloc (.cells C 5 (C.size, C.size + 1))) :=
  Go.Lib.run_convert_bytes_const W 22 5 C n c Try.underlying22 Try.underlying5
/-- A new row of elements of several cells. -/
theorem sl_rows_new (w : World) (cs : List Value) (e : TypeId) (fr : Nat × Nat) (sz n : Nat) (hn : cs.length = n * sz) (hm : n ≤ maxLen) : Sl (w.alloc (.cells cs.toArray e fr)) sz (.slice (some ⟨w.heap.size, 0, none⟩) n n) n cs := by
  refine ⟨_, n, rfl, by simp, Nat.le_refl _, hm, hn, fun _ => ⟨_, rfl, fun j u hu => ?_⟩⟩
  have ha : (⟨w.heap.size, 0, none⟩ : Addr).add j = ⟨w.heap.size, j, none⟩ := by unfold Addr.add; split <;> simp_all
  rw [ha]
  simp only [World.cell?, blk_new]
  simpa using hu
theorem ex_first : firstV 9 [⟨0, [98]⟩, ⟨1, [97, 42]⟩] [120, 97, 98] = .tuple #[.agg #[.int .i64 1, .int .i64 1, .int .i64 2], .bool true, .int .i64 0] := by kernel_rfl
theorem ex_second : firstV 9 [⟨0, [97, 98]⟩, ⟨0, [98]⟩] [120, 97, 98] = .tuple #[.agg #[.int .i64 0, .int .i64 1, .int .i64 3], .bool true, .int .i64 0] := by kernel_rfl
/-- First at a new row of bytes and a new row of two branches. -/
theorem first_two (W : World) (l : List Br) (b : List UInt8) (hl2 : l.length = 2) (hb : b.length = 3) (hp : ∀ x ∈ l, x.pat.length ≤ 9) (B : Nat) (hB : W.heap.size = B) (c1 c2 : Array Value) (fr : Nat × Nat) (h1 : c1 = (cellsOf .u8 (ns b)).toArray) (h2 : c2 = (brCells l).toArray) :
    Calls Try.prog 18 #[.int .i64 9, .slice (some ⟨B, 0, none⟩) 3 3, .slice (some ⟨B + 1, 0, none⟩) 2 2] ((W.alloc (.cells c1 5 fr)).alloc (.cells c2 45)) fun e w' => e = .returned (firstV 9 l b) ∧ Chg [] W w' := by
  subst hB h1 h2
  have s1 := sl_rows_new W (cellsOf .u8 (ns b)) 5 fr 1 3 (by simp [ns, hb]) (by simp [maxLen])
  have s2 := sl_rows_new (W.alloc (.cells (cellsOf .u8 (ns b)).toArray 5 fr)) (brCells l) 45 (0, 0) 2 2 (by rw [brCells_length, hl2]) (by simp [maxLen])
  rw [show (W.alloc (.cells (cellsOf .u8 (ns b)).toArray 5 fr)).heap.size = W.heap.size + 1 from Array.size_push ..] at s2
  refine (mfirst_any _ 9 l b _ _ 2 2 3 3 hl2 s2 (fun x hx => by have := hp x hx; omega) hb (s1.chg ((Chg.refl [] _).alloc _) (by simp)) (by omega)).mono ?_
  rintro e w' ⟨hC, rfl⟩
  exact ⟨rfl, (((Chg.refl [] W).alloc _).alloc _).trans hC⟩
set_option maxRecDepth 100000 in
set_option maxHeartbeats 16000000 in
theorem alive_any (w : World) : Calls Try.prog 9 #[] w fun e w' => e = .returned (.bool true) ∧ Chg [] w w' := by
  have h1 := Lib.hid (fun (W : World) B hB c1 c2 fr h1 h2 => first_two W [⟨0, [98]⟩, ⟨1, [97, 42]⟩] [120, 97, 98] rfl rfl (by simp) B hB c1 c2 fr h1 h2)
  have h2 := Lib.hid (fun (W : World) B hB c1 c2 fr h1 h2 => first_two W [⟨0, [97, 98]⟩, ⟨0, [98]⟩] [120, 97, 98] rfl rfl (by simp) B hB c1 c2 fr h1 h2)
  go_enter Try.func9, Try.ntmps9
  go_wp2_with fail
  refine (h1.out w _ rfl _ _ _ rfl rfl).mono ?_
  rintro e w1 ⟨rfl, hC1⟩
  rw [ex_first]
  replace hC1 := Lib.hid hC1
  have hcv := conv_lit (w1.alloc (.cells #[.int .i64 1, .int .i64 1, .int .i64 2] 34)) #[.int .u8 120, .int .u8 97, .int .u8 98] 3 3
  have hsz : (w1.alloc (.cells #[.int .i64 1, .int .i64 1, .int .i64 2] 34)).heap.size = w1.heap.size + 1 := Array.size_push ..
  rw [hsz] at hcv
  have hb1 := blk_new w1 (.cells #[.int .i64 1, .int .i64 1, .int .i64 2] 34)
  replace hb1 := Lib.hid hb1
  go_wp2_with fail
  refine (h2.out (w1.alloc (.cells #[.int .i64 1, .int .i64 1, .int .i64 2] 34)) _ hsz _ _ _ rfl rfl).mono ?_
  rintro e w2 ⟨rfl, hC2⟩
  rw [ex_second]
  have hb2 := hC2.heap hb1.out (by simp)
  have r0 := fun ob => ((Chg.refl [] w2).alloc ob).heap hb2 (by simp)
  have q0 : ∀ ob : Obj, (w2.alloc ob).cell? ⟨w1.heap.size, 0, none⟩ = some (.int .i64 1) := fun ob => by simp [World.cell?, r0]
  have q1 : ∀ ob : Obj, (w2.alloc ob).cell? ⟨w1.heap.size, 1, none⟩ = some (.int .i64 1) := fun ob => by simp [World.cell?, r0]
  have q2 : ∀ ob : Obj, (w2.alloc ob).cell? ⟨w1.heap.size, 2, none⟩ = some (.int .i64 2) := fun ob => by simp [World.cell?, r0]
  replace hC2 := Lib.hid ((hC1.out.alloc _).trans hC2)
  clear hb1 hb2 r0 hcv hsz h1 h2
  go_wp2_with fail
  go_ret
  exact ⟨rfl, hC2.out.alloc _⟩
end Mt
end Go.Proofs.Ytojgdmpnbgikeaa
