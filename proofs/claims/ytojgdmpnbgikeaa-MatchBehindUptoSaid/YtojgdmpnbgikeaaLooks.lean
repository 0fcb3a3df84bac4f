/- Contracts of what makes the closures that branches look with. Conditions: as they state. -/
import Derived.Test.YtojgdmpnbgikeaaLook
import Derived.Lib.ConvBytes
set_option linter.unusedVariables false
set_option linter.unusedSimpArgs false
namespace Go.Proofs.Ytojgdmpnbgikeaa
open Go.RowKit PMatchFeeds YtojgdmpnbgikeaaW.PrintWords
namespace Mt
open Kmp Glob
/-- `[]byte(s)`: a new row that reads as the string's bytes. -/
theorem conv_bytes (l : List UInt8) (hl : l.length ≤ maxLen) (W : World) : ∃ c W', (convert 9 22 (.string (bs l))).run Try.prog W = .ok (.slice (some ⟨W.heap.size, 0, none⟩) l.length c) W' ∧ Sl W' 1 (.slice (some ⟨W.heap.size, 0, none⟩) l.length c) l.length (cellsOf .u8 (ns l)) ∧ Chg [] W W' ∧ W'.heap.size = W.heap.size + 1 := by
  refine ⟨_, _, Go.Lib.run_convert_string_bytes W 9 22 5 (bs l) Try.underlying9 Try.underlying22 Try.underlying5, ⟨_, _, rfl, by simp, grownCap_ge _ _ _ _, grownCap_le_maxLen _ _ _ _ hl, by simp [ns], fun _ => ⟨_, rfl, fun j u hu => ?_⟩⟩, ⟨rfl, rfl, rfl, by rw [Go.Lib.bytesWorld_size]; omega, fun k hk _ => Go.Lib.bytesWorld_at_old _ _ _ _ hk⟩, Go.Lib.bytesWorld_size _ _ _⟩
  have hj : j < l.length := by have := (List.getElem?_eq_some_iff.1 hu).1; simpa [ns] using this
  have ha : (⟨W.heap.size, 0, none⟩ : Addr).add j = ⟨W.heap.size, j, none⟩ := by unfold Addr.add; split <;> simp_all
  rw [ha, Go.Lib.bytesWorld_cell _ _ _ _ hj]
  simp [cellsOf, ns, hj] at hu
  rw [← hu]
  simp [bs, List.getD, hj]
def MkEnd (w : World) (most : Nat) (x : Br) (e : Ending) (w' : World) : Prop := ∃ u, e = .returned u ∧ LookAt w' w.heap.size w'.heap.size most x u [] ∧ Chg [] w w'
set_option maxRecDepth 100000 in
set_option maxHeartbeats 1000000 in
theorem like_any (w : World) (most : Nat) (x : Br) (ths : List Th) (h1 : x.kind = 1) (h5 : parse x.pat = some ths) (h6 : x.pat.length ≤ 1024) :
    Calls Try.prog 31 #[.string (bs x.pat), .int .i64 most] w (MkEnd w most x) := by
  have key : ∀ w1 w2 : World, w1 = w.alloc (.cells #[.string (bs x.pat)] 9) → w2 = w1.alloc (.cells #[.int .i64 most] 3) →
      MkEnd w most x (.returned (.func (.func 44) #[] #[.pointer (some ⟨w.heap.size, 0, none⟩), .pointer (some ⟨w1.heap.size, 0, none⟩)])) w2 := by
    rintro w1 w2 rfl rfl
    refine ⟨_, rfl, .inr (.inl ⟨h1, _, _, ths, rfl, blk_alloc (blk_new _ _) _, blk_new _ _, h5, h6, ?_⟩), ((Chg.refl [] w).alloc _).alloc _⟩
    simp; omega
  replace key := Lib.hid key
  clear h1 h5 h6
  go_enter Try.func31, Try.ntmps31
  go_wp2_with fail
  go_ret
  have := key.out _ _ rfl rfl
  simpa using this
set_option maxRecDepth 100000 in
set_option maxHeartbeats 1000000 in
theorem exact_any (w : World) (most : Nat) (x : Br) (h1 : x.kind = 0) (hm : most ≤ 1048576) :
    Calls Try.prog 30 #[.string (bs x.pat), .int .i64 most] w (MkEnd w most x) := by
  have hz : (bs x.pat).size = x.pat.length := rfl
  by_cases h2 : x.pat.length ≤ most
  · have hb1 := blk_new w (.cells #[.string (bs x.pat)] 9)
    have h1' := Lib.hid h1
    clear h1
    go_enter Try.func30, Try.ntmps30
    obtain ⟨cv, W2, hcv, hS, hC2, hs2⟩ := conv_bytes x.pat (by unfold maxLen; omega) (w.alloc (.cells #[.string (bs x.pat)] 9))
    have hsz1 : (w.alloc (.cells #[.string (bs x.pat)] 9)).heap.size = w.heap.size + 1 := Array.size_push ..
    rw [hsz1] at hcv hS hs2
    have hC1 := ((Chg.refl [] w).alloc (.cells #[.string (bs x.pat)] 9))
    have hb2 := hC2.heap hb1 (by simp)
    have hnew := Lib.hid (fun W A h => new_any W A x.pat.length cv (ns x.pat) h (by simp [ns]) (by omega))
    replace hS := Lib.hid hS
    replace hC2 := Lib.hid (hC1.trans hC2)
    replace hb2 := Lib.hid hb2
    replace hs2 := Lib.hid hs2
    clear hC1 hb1 hsz1
    go_wp2_with fail
    refine (hnew.out _ _ hS.out).mono ?_
    rintro e w3 ⟨g, rfl, hK, hC3⟩
    have hb3 := Lib.hid (hC3.heap hb2.out (by simp))
    have hs3 := Lib.hid (hC3.size)
    replace hC3 := Lib.hid (hC2.out.trans hC3)
    replace hK := Lib.hid hK
    clear hcv
    go_wp2_with fail
    go_ret
    have k1 := hs2.out
    have k2 := hs3.out
    have k3 := KS.shape hK.out
    refine ⟨_, rfl, .inl ⟨h1'.out, h2, _, _, g, 0, rfl, blk_alloc hb3.out _, blk_new _ _, KS.hi (hK.out.chg (S := []) ((Chg.refl [] _).alloc _) (by simp)) (by simp) (by omega), best_nil _, by omega, by simp; omega, by omega, by simp, by omega, by omega⟩, hC3.out.alloc _⟩
  · have hd : decide ((most : Int) < (x.pat.length : Int)) = true := by simp; omega
    have h1' := Lib.hid h1
    clear h1
    go_enter Try.func30, Try.ntmps30
    go_wp2_with fail
    go_ret
    exact ⟨_, rfl, .inr (.inr ⟨.inl ⟨h1'.out, by omega⟩, rfl⟩), (Chg.refl [] w).alloc _⟩
end Mt
end Go.Proofs.Ytojgdmpnbgikeaa
