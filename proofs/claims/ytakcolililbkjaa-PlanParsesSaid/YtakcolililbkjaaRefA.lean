/- TclGet, TclEv, RTcl, RBr, RSpec, RAdd, REsc, ROne: texts of mine, joined. Conditions: as they state. -/
import Derived.Test.YtakcolililbkjaaTclParse
import Derived.Test.YtakcolililbkjaaPPlanParsesx3
import Derived.Test.YtakcolililbkjaaTclBr
import Derived.Test.YtakcolililbkjaaTclEqs
import Derived.Laws.OwnMore
set_option linter.unusedVariables false
set_option linter.unusedSimpArgs false
namespace Go.Proofs.Ytakcolililbkjaa
open Go.RowKit Tcl
/-- Where a row that isn't empty lies. -/
theorem Sl.row {w : World} {size : Nat} {A : Option Addr} {n c : Nat} {xs : List Value} (h : Sl w size (.slice A n c) n xs) (hx : 0 < xs.length) :
    ∃ b o, A = some ⟨b, o, none⟩ ∧ ∀ j u, xs[j]? = some u → w.cell? ⟨b, o + j, none⟩ = some u := by
  obtain ⟨A0, c0, e0, h0, h1, h2, h3, h4⟩ := h
  obtain ⟨rfl, rfl⟩ : A0 = A ∧ c0 = c := by simp at e0; exact ⟨e0.1.symm, e0.2.symm⟩
  obtain ⟨ad, rfl, hr⟩ := h4 hx
  have hspot : ad.spot = none := by
    have := hr 0 _ (List.getElem?_eq_getElem hx)
    exact World.cell?_spot (a := ad) (by simpa [Addr.add] using this)
  obtain ⟨b, off, spot⟩ := ad
  simp only at hspot
  subst hspot
  refine ⟨b, off, rfl, fun j u hu => ?_⟩
  have := hr j _ hu
  have ha : (⟨b, off, none⟩ : Addr).add j = ⟨b, off + j, none⟩ := by unfold Addr.add; split <;> simp_all
  rwa [ha] at this
theorem parts_get (l : List Part) : ∀ (k : Nat) (p : Part), l[k]? = some p → (partsCells l)[k * 2]? = some (.bool p.var) ∧ (partsCells l)[k * 2 + 1]? = some (.string (bstr p.s)) := by
  induction l with
  | nil => intro k p h; simp at h
  | cons x l ih =>
    intro k p h
    cases k with
    | zero => simp at h; subst h; exact ⟨rfl, rfl⟩
    | succ k =>
      have := ih k p (by simpa using h)
      have e : partsCells (x :: l) = .bool x.var :: .string (bstr x.s) :: partsCells l := rfl
      rw [e, show (k + 1) * 2 = k * 2 + 1 + 1 by omega]
      exact this
theorem parts_at {w : World} {A : Option Addr} {n c : Nat} {ps : List Part} (h : PartsAt w (.slice A n c) ps) (hn : 0 < ps.length) :
    ∃ b o, A = some ⟨b, o, none⟩ ∧ ∀ k p, ps[k]? = some p → w.cell? ⟨b, o + k * 2, none⟩ = some (.bool p.var) ∧ w.cell? ⟨b, o + (k * 2 + 1), none⟩ = some (.string (bstr p.s)) := by
  obtain ⟨A0, c0, e0, h1⟩ := id h
  simp only [Value.slice.injEq] at e0
  obtain ⟨rfl, rfl, rfl⟩ := e0
  obtain ⟨b, o, rfl, hr⟩ := Sl.row h (by have := partsCells_length ps; omega)
  refine ⟨b, o, rfl, fun k p hk => ?_⟩
  have hg := parts_get ps k p hk
  exact ⟨hr _ _ hg.1, hr _ _ hg.2⟩
end Go.Proofs.Ytakcolililbkjaa
namespace Go.Proofs.Ytakcolililbkjaa
open Go.RowKit PPlanParses
namespace Tcl
theorem wrap_succ {i : Int} (h0 : 0 ≤ i) (h : i < 9223372036854775807) : wrap64 (i + 1) = i + 1 := by
  unfold wrap64; omega
theorem drop_cons {α : Type} {l : List α} {i : Nat} (h : i < l.length) : l.drop i = l[i] :: l.drop (i + 1) := List.drop_eq_getElem_cons h
theorem getD_lt {α : Type} {l : List α} {i : Nat} (d : α) (h : i < l.length) : l.getD i d = l[i] := by simp [List.getD, h]
def Ev {α : Type} (g : Nat → Option α) (r : α) : Prop := ∃ K, ∀ k, K ≤ k → g k = some r
theorem Ev.step {α : Type} {g h : Nat → Option α} {r : α} (hh : Ev h r) (e : ∀ k, g (k + 1) = h k) : Ev g r := by
  obtain ⟨K, hK⟩ := hh
  refine ⟨K + 1, fun k hk => ?_⟩
  obtain ⟨k, rfl⟩ : ∃ q, k = q + 1 := ⟨k - 1, by omega⟩
  rw [e]; exact hK k (by omega)
theorem Ev.pure {α : Type} {g : Nat → Option α} {r : α} (e : ∀ k, g (k + 1) = some r) : Ev g r := by
  refine ⟨1, fun k hk => ?_⟩
  obtain ⟨k, rfl⟩ : ∃ q, k = q + 1 := ⟨k - 1, by omega⟩
  exact e k
theorem Ev.bind {α β : Type} {g : Nat → Option α} {r : α} {h : Nat → α → Option β} {s : β} (hg : Ev g r) (hh : Ev (fun k => h k r) s) : Ev (fun k => (g k).bind (h k)) s := by
  obtain ⟨K, hK⟩ := hg
  obtain ⟨M, hM⟩ := hh
  exact ⟨max K M, fun k hk => by simp only; rw [hK k (by omega)]; exact hM k (by omega)⟩
theorem Ev.of {α : Type} {g : Nat → Option α} {r s : α} (hg : Ev g r) (e : r = s) : Ev g s := e ▸ hg
end Tcl
end Go.Proofs.Ytakcolililbkjaa
namespace Go.Proofs.Ytakcolililbkjaa
open Go.RowKit Tcl PPlanParses YtakcolililbkjaaW.PrintWords
namespace Rt
/-- The reference's parser at block `g`. -/
def RP (w : World) (g : Nat) (s : ByteArray) (i e a : Int) (v : Value) : Prop := w.heap[g]? = some (.cells #[.string s, .int .i64 i, .int .i64 e, .int .i64 a, v] 91 (0, 0))
theorem RP.chg {S : List Nat} {w w' : World} {g : Nat} {s : ByteArray} {i e a : Int} {v : Value} (h : RP w g s i e a v) (hc : Chg S w w') (hg : g ∉ S) : RP w' g s i e a v := hc.heap h hg
theorem RP.c0 {w : World} {g : Nat} {s : ByteArray} {i e a : Int} {v : Value} (h : RP w g s i e a v) : w.cell? ⟨g, 0, none⟩ = some (.string s) ∧ w.cell? ⟨g, 1, none⟩ = some (.int .i64 i) ∧ w.cell? ⟨g, 2, none⟩ = some (.int .i64 e) ∧ w.cell? ⟨g, 3, none⟩ = some (.int .i64 a) ∧ w.cell? ⟨g, 4, none⟩ = some v := by
  unfold RP at h; refine ⟨?_, ?_, ?_, ?_, ?_⟩ <;> simp [World.cell?, h]
theorem RP.f0 {w : World} {g : Nat} {s : ByteArray} {i e a : Int} {v : Value} (h : RP w g s i e a v) (k : Nat) : w.frozen? ⟨g, k, none⟩ = false := by
  unfold RP at h; simp [World.frozen?, h]
theorem RP.put {w : World} {g : Nat} {s : ByteArray} {i e a : Int} {v : Value} (h : RP w g s i e a v) (j : Int) : RP (w.setCell ⟨g, 1, none⟩ (.int .i64 j)) g s j e a v := blk_set h 1 _
theorem RP.lt {w : World} {g : Nat} {s : ByteArray} {i e a : Int} {v : Value} (h : RP w g s i e a v) : g < w.heap.size := lt_heap h
theorem more_ref0 (w : World) (g : Nat) (s : ByteArray) (i e a : Int) (v : Value) (h : RP w g s i e a v) (b : Bool) (hb : b = (decide (e = 0) && decide (i < s.size))) :
    Calls Try.prog 30 #[.pointer (some ⟨g, 0, none⟩)] w fun e' w' => e' = .returned (.bool b) ∧ Drawn0 w w' := by
  obtain ⟨c0, c1, c2, c3, c4⟩ := h.c0
  replace h := Lib.hid h
  by_cases he : e = 0
  · subst he
    rcases (by omega : i < s.size ∨ ¬ i < s.size) with h1 | h1
    · obtain rfl : b = true := by rw [hb]; simp [h1]
      have d : decide (i < (s.size : Int)) = true := by simpa using h1
      clear hb
      go_enter Try.func30, Try.ntmps30
      go_wp2_with fail
      go_quiet (fail)
      go_wp2_with fail
      go_ret
      exact ⟨rfl, ⟨_, rfl⟩⟩
    · obtain rfl : b = false := by rw [hb]; simp [h1]
      have d : decide (i < (s.size : Int)) = false := by simpa using h1
      clear hb
      go_enter Try.func30, Try.ntmps30
      go_wp2_with fail
      go_quiet (fail)
      go_wp2_with fail
      go_ret
      exact ⟨rfl, ⟨_, rfl⟩⟩
  · obtain rfl : b = false := by rw [hb]; simp [he]
    have d : (e == 0) = false := by simpa using he
    clear hb
    go_enter Try.func30, Try.ntmps30
    go_wp2_with fail
    go_quiet (fail)
    go_wp2_with fail
    go_ret
    exact ⟨rfl, ⟨_, rfl⟩⟩
theorem more_ref (w : World) (g : Nat) (s : ByteArray) (i e a : Int) (v : Value) (h : RP w g s i e a v) (b : Bool) (hb : b = (decide (e = 0) && decide (i < s.size))) :
    Calls Try.prog 30 #[.pointer (some ⟨g, 0, none⟩)] w fun e' w' => e' = .returned (.bool b) ∧ Chg [] w w' :=
  (more_ref0 w g s i e a v h b hb).mono fun e' w' h => ⟨h.1, by obtain ⟨n, rfl⟩ := h.2.out; exact (Chg.refl [] w).drewN n⟩
theorem fail_ref (w : World) (g : Nat) (s : ByteArray) (i a p c : Int) (v : Value) (h : RP w g s i 0 a v) :
    Calls Try.prog 47 #[.pointer (some ⟨g, 0, none⟩), .int .i64 p, .int .i64 c] w fun e' w' => e' = .returned (.tuple #[]) ∧ RP w' g s i c p v ∧ Chg [g] w w' := by
  obtain ⟨c0, c1, c2, c3, c4⟩ := h.c0
  have f2 := h.f0 2
  have f3 := h.f0 3
  have h2 : RP ((w.setCell ⟨g, 2, none⟩ (.int .i64 c)).setCell ⟨g, 3, none⟩ (.int .i64 p)) g s i c p v := blk_set (blk_set h 2 (.int .i64 c)) 3 (.int .i64 p)
  have hC : Chg [g] w ((w.setCell ⟨g, 2, none⟩ (.int .i64 c)).setCell ⟨g, 3, none⟩ (.int .i64 p)) := ((Chg.refl [g] w).setCell (.inl (by simp)) _).setCell (.inl (by simp)) _
  replace h := Lib.hid h
  replace h2 := Lib.hid h2
  replace hC := Lib.hid hC
  go_enter Try.func47, Try.ntmps47
  go_wp2_with fail
  go_end0
  exact ⟨rfl, h2.out, hC.out⟩
theorem fail_ref2 (w : World) (g : Nat) (s : ByteArray) (i e a p c : Int) (v : Value) (he : e ≠ 0) (h : RP w g s i e a v) :
    Calls Try.prog 47 #[.pointer (some ⟨g, 0, none⟩), .int .i64 p, .int .i64 c] w fun e' w' => e' = .returned (.tuple #[]) ∧ Chg [] w w' := by
  obtain ⟨c0, c1, c2, c3, c4⟩ := h.c0
  have d : (e == 0) = false := by simpa using he
  replace h := Lib.hid h
  go_enter Try.func47, Try.ntmps47
  go_wp2_with fail
  go_end0
  exact ⟨rfl, Chg.refl _ _⟩
theorem u8k {c : UInt8} {n : Nat} (hn : n < 256) : ((c.toNat : Int) == (n : Int)) = (c == UInt8.ofNat n) := by
  by_cases h : c = UInt8.ofNat n
  · subst h
    have : (UInt8.ofNat n).toNat = n := by simp; omega
    simp [this]
  · rw [u8n h hn]; exact (beq_eq_false_iff_ne.2 h).symm
theorem blank_ref (w : World) (c : UInt8) (b : Bool) (hb : blankB c = b) : Calls Try.prog 31 #[.int .u8 c.toNat] w fun e w' => e = .returned (.bool b) ∧ w' = w := by
  have h1 : ((c.toNat : Int) == 9) = (c == 9) := u8k (n := 9) (by decide)
  have h2 : ((c.toNat : Int) == 32) = (c == 32) := u8k (n := 32) (by decide)
  have hv : ((c.toNat : Int) == 9 || (c.toNat : Int) == 32) = b := by
    rw [h1, h2, ← hb]; unfold blankB; first | rfl | exact Bool.or_comm _ _
  replace hv := Lib.hid hv
  clear h1 h2 hb
  go_enter Try.func31, Try.ntmps31
  go_wp2_with fail
  all_goals
    go_ret
    exact ⟨by first | (rw [hv.out]; done) | (have := hv.out; simp_all; done), rfl⟩
theorem end_ref (w : World) (c : UInt8) (b : Bool) (hb : endB c = b) : Calls Try.prog 32 #[.int .u8 c.toNat] w fun e w' => e = .returned (.bool b) ∧ w' = w := by
  have h1 : ((c.toNat : Int) == 10) = (c == 10) := u8k (n := 10) (by decide)
  have h2 : ((c.toNat : Int) == 59) = (c == 59) := u8k (n := 59) (by decide)
  have hv : ((c.toNat : Int) == 10 || (c.toNat : Int) == 59) = b := by
    rw [h1, h2, ← hb]; unfold endB; first | rfl | exact Bool.or_comm _ _
  replace hv := Lib.hid hv
  clear h1 h2 hb
  go_enter Try.func32, Try.ntmps32
  go_wp2_with fail
  all_goals
    go_ret
    exact ⟨by first | (rw [hv.out]; done) | (have := hv.out; simp_all; done), rfl⟩
end Rt
end Go.Proofs.Ytakcolililbkjaa
namespace Go.Proofs.Ytakcolililbkjaa
open Go.RowKit Tcl PPlanParses YtakcolililbkjaaW.PrintWords
namespace Rt
theorem word_cells {w : World} {g : Nat} {a b c : Value} (h : w.heap[g]? = some (.cells #[a, b, c] 38 (0, 0))) : w.cell? ⟨g, 0, none⟩ = some a ∧ w.cell? ⟨g, 1, none⟩ = some b ∧ w.cell? ⟨g, 2, none⟩ = some c := by
  refine ⟨?_, ?_, ?_⟩ <;> simp [World.cell?, h]
theorem word_frozen {w : World} {g : Nat} {a b c : Value} (h : w.heap[g]? = some (.cells #[a, b, c] 38 (0, 0))) (k : Nat) : w.frozen? ⟨g, k, none⟩ = false := by simp [World.frozen?, h]
theorem results_cell1 {P : Program} {fn : Func} {p : Tmp} {ty : TypeId} (h : fn.results = #[.cell p ty]) (tmps : Array Value) (w : World) (g : Nat) (t : TypeId) (cs : Array Value) (fr : Nat × Nat) (d : TypeDesc)
    (hp : tmps.getD p undef = .pointer (some ⟨g, 0, none⟩)) (hg : w.heap[g]? = some (.cells cs t fr))
    (hu : P.underlying ty = some d) (hd : (match d with | .struct _ | .array _ _ => true | _ => false) = true) (hi : (P.info? ty).map (·.size) = some cs.size) :
    (results fn tmps).run P w = .ok (.agg cs) w := by
  have hp' : tmps[p]?.getD undef = .pointer (some ⟨g, 0, none⟩) := by simpa using hp
  simp [results, h, hp', asAddr, run_loadVar_row w g t ty cs fr d hg hu hd hi]
theorem rb_fin {w wr : World} {g b2 : Nat} {f i e a : Int} {v v0 : Value} {B : ByteArray} (hb : wr.heap[b2]? = some (.cells #[.int .i64 0, .int .i64 0, .slice none 0 0] 38 (0, 0))) (hC : Chg [g] w wr) (hP : RP wr g B i e a v0) (hle : w.heap.size ≤ b2) (hg : g < b2) :
    (((wr.setCell ⟨b2, 0, none⟩ (.int .i64 f)).setCell ⟨b2, 1, none⟩ (.int .i64 2)).setCell ⟨b2, 2, none⟩ v).heap[b2]? = some (.cells #[.int .i64 f, .int .i64 2, v] 38 (0, 0)) ∧
    Chg [g] w (((wr.setCell ⟨b2, 0, none⟩ (.int .i64 f)).setCell ⟨b2, 1, none⟩ (.int .i64 2)).setCell ⟨b2, 2, none⟩ v) ∧ RP (((wr.setCell ⟨b2, 0, none⟩ (.int .i64 f)).setCell ⟨b2, 1, none⟩ (.int .i64 2)).setCell ⟨b2, 2, none⟩ v) g B i e a v0 ∧
    Chg [b2] wr (((wr.setCell ⟨b2, 0, none⟩ (.int .i64 f)).setCell ⟨b2, 1, none⟩ (.int .i64 2)).setCell ⟨b2, 2, none⟩ v) := by
  have h1 : Chg [b2] wr (((wr.setCell ⟨b2, 0, none⟩ (.int .i64 f)).setCell ⟨b2, 1, none⟩ (.int .i64 2)).setCell ⟨b2, 2, none⟩ v) := (((Chg.refl [b2] wr).setCell (.inl (by simp)) _).setCell (.inl (by simp)) _).setCell (.inl (by simp)) _
  refine ⟨?_, ((hC.setCell (.inr hle) _).setCell (.inr hle) _).setCell (.inr hle) _, hP.chg h1 (by simp; omega), h1⟩
  have := blk_set (blk_set (blk_set hb 0 (.int .i64 f)) 1 (.int .i64 2)) 2 v
  simpa using this
theorem rb_put {w wr : World} {g b2 : Nat} {i e a : Int} {v0 : Value} {B : ByteArray} {o2 o3 : Obj} (hP : RP wr g B i e a v0) (hb2 : wr.heap[b2]? = some o2) (hb3 : wr.heap[b2 + 1]? = some o3) (hC : Chg [g] w wr) (hg : g < b2) (j : Int) :
    RP (wr.setCell ⟨g, 1, none⟩ (.int .i64 j)) g B j e a v0 ∧ Hid ((wr.setCell ⟨g, 1, none⟩ (.int .i64 j)).heap[b2]? = some o2) ∧ Hid ((wr.setCell ⟨g, 1, none⟩ (.int .i64 j)).heap[b2 + 1]? = some o3) ∧ Hid (Chg [g] w (wr.setCell ⟨g, 1, none⟩ (.int .i64 j))) := by
  have h1 : Chg [g] wr (wr.setCell ⟨g, 1, none⟩ (.int .i64 j)) := (Chg.refl [g] wr).setCell (.inl (by simp)) _
  exact ⟨hP.put j, Lib.hid (h1.heap hb2 (by simp; omega)), Lib.hid (h1.heap hb3 (by simp; omega)), Lib.hid (hC.setCell (.inl (by simp)) _)⟩
/-- What the reference's `braced` tells. -/
def RbEnd (w : World) (g : Nat) (s : List UInt8) (f : Nat) (a0 : Int) (v0 : Value) (e : Ending) (w' : World) : Prop :=
  ∃ v, e = .returned (.agg #[.int .i64 f, .int .i64 2, v]) ∧ Chg [g] w w' ∧
    ((∃ j, braced s f f 0 = .ok j ∧ RP w' g (bstr s) j 0 a0 v0 ∧ PartsAt w' v (if j = f + 2 then [] else [⟨false, sub s (f + 1) (j - 1)⟩]) ∧ ∀ q, v.ownBlock = some q → w.heap.size ≤ q)
    ∨ (∃ p c i : Nat, braced s f f 0 = .error (p, c) ∧ RP w' g (bstr s) i c p v0 ∧ v = .slice none 0 0 ∧ c ≠ 0))
set_option maxRecDepth 100000 in
set_option maxHeartbeats 4000000 in
theorem braced_ref (w : World) (g : Nat) (s : List UInt8) (f : Nat) (a0 : Int) (v0 : Value) (hs : s.length ≤ 16777300) (hf : s[f]? = some 123) (h : RP w g (bstr s) f 0 a0 v0) :
    Calls Try.prog 45 #[.pointer (some ⟨g, 0, none⟩)] w (RbEnd w g s f a0 v0) := by
  have hsz : (bstr s).size = s.length := rfl
  have hfl := lt_of_some hf
  obtain ⟨B, hB⟩ : ∃ B, bstr s = B := ⟨_, rfl⟩
  have hby : ∀ i (h : i < B.size), s[i]? = some (B[i]'h) := by rw [← hB]; exact fun i h => byte_of h
  have hex : ∀ a b, B.extract a b = bstr (sub s a b) := by rw [← hB]; exact extract_bstr s
  unfold RbEnd
  rw [hB] at h hsz ⊢
  have hg := h.lt
  have hC0 := (Chg.refl [g] w).alloc (.cells #[.int .i64 0, .int .i64 0, .slice none 0 0] 38)
  have hb2 := blk_new w (.cells #[.int .i64 0, .int .i64 0, .slice none 0 0] 38)
  have hP0 := h.chg ((Chg.refl [] w).alloc (.cells #[.int .i64 0, .int .i64 0, .slice none 0 0] 38)) (by simp)
  obtain ⟨-, c1, -, -, -⟩ := hP0.c0
  replace hby := Lib.hid hby
  replace hex := Lib.hid hex
  replace hC0 := Lib.hid hC0
  replace hb2 := Lib.hid hb2
  replace hP0 := Lib.hid hP0
  clear hB h
  obtain ⟨b2, hB2⟩ : ∃ b2, w.heap.size = b2 := ⟨_, rfl⟩
  have hsz1 : (w.alloc (.cells #[.int .i64 0, .int .i64 0, .slice none 0 0] 38)).heap.size = w.heap.size + 1 := Array.size_push ..
  have hCb := (Chg.refl [] (w.alloc (.cells #[.int .i64 0, .int .i64 0, .slice none 0 0] 38))).alloc (.cells #[.int .i64 f, .int .i64 2, .slice none 0 0] 38)
  have hb3 := blk_new (w.alloc (.cells #[.int .i64 0, .int .i64 0, .slice none 0 0] 38)) (.cells #[.int .i64 f, .int .i64 2, .slice none 0 0] 38)
  have hb2' := hCb.heap hb2.out (by simp)
  have hP1 := hP0.out.chg hCb (by simp)
  have hC1 := hC0.out.alloc (.cells #[.int .i64 f, .int .i64 2, .slice none 0 0] 38)
  rw [hsz1] at hb3
  rw [hB2] at hb2' hb3 hg hsz1
  have hnew : ∀ q, b2 ≤ q → w.heap.size ≤ q := fun q h => by omega
  replace hsz1 := Lib.hid hsz1
  replace hb2' := Lib.hid hb2'
  replace hb3 := Lib.hid hb3
  replace hP1 := Lib.hid hP1
  replace hC1 := Lib.hid hC1
  replace hnew := Lib.hid hnew
  clear hCb hb2 hP0 hC0
  go_enter Try.func45, Try.ntmps45
  go_wp2_with fail
  generalize (w.alloc (.cells #[.int .i64 0, .int .i64 0, .slice none 0 0] 38)).alloc (.cells #[.int .i64 f, .int .i64 2, .slice none 0 0] 38) = W1 at hb2' hb3 hP1 hC1 ⊢
  go_loopg [4] (s.length + 1 - f) (fun gk v4 wr => ∃ (i : Nat) (d e : Nat) (a : Int), v4 = .int .i64 d ∧ RP wr g B i e a v0 ∧ Hid (wr.heap[b2]? = some (.cells #[.int .i64 0, .int .i64 0, .slice none 0 0] 38 (0, 0))) ∧ Hid (wr.heap[b2 + 1]? = some (.cells #[.int .i64 f, .int .i64 2, .slice none 0 0] 38 (0, 0))) ∧ Hid (Chg [g] w wr) ∧ f ≤ i ∧ i ≤ s.length + 1 ∧ gk = s.length + 1 - i ∧ ((e = 0 ∧ a = a0 ∧ Hid (braced s f f 0 = braced s f i d) ∧ (d = 0 → i = f) ∧ d ≤ 64) ∨ (e = 7 ∧ ∃ p : Nat, a = p ∧ Hid (braced s f f 0 = .error (p, 7)))))
  case atStart => exact ⟨f, 0, 0, a0, rfl, hP1.out, hb2', hb3, hC1, by omega, by omega, by omega, .inl ⟨rfl, rfl, Lib.hid rfl, by omega, by omega⟩⟩
  case round =>
    obtain ⟨i, d, e, a, rfl, hP, hb2, hb3, hC, hfi, hil, rfl, hcase⟩ := hrel
    clear hP1 hC1 hb2'
    obtain ⟨x0, x1, x2⟩ := word_cells hb3.out
    have y0 := word_frozen hb3.out
    obtain ⟨z0, z1, z2⟩ := word_cells hb2.out
    have zf0 := word_frozen hb2.out 0
    have zf1 := word_frozen hb2.out 1
    have zf2 := word_frozen hb2.out 2
    clear y0
    obtain ⟨c0, c1, c2, c3, -⟩ := hP.c0
    by_cases hlt : i < s.length ∧ e = 0
    rotate_left
    · have hmo := Lib.hid (more_ref wr g B i e a v0 hP false (by
        rcases Nat.lt_or_ge i s.length with h1 | h1
        · have h2 : e ≠ 0 := fun h2 => hlt ⟨h1, h2⟩
          simp [h2]
        · have h2 : ¬ ((i : Int) < B.size) := by omega
          simp [h2]))
      replace hP := Lib.hid hP
      clear x1 x2 c0 c1 c2 c3
      go_wp2_with fail
      refine (hmo.out).mono ?_
      rintro e' w2 ⟨rfl, hC2⟩
      have hb22 := hC2.heap hb2.out (by simp)
      have hb32 := hC2.heap hb3.out (by simp)
      have hP2 := hP.out.chg hC2 (by simp)
      have hCC := Lib.hid (hC.out.trans (hC2.mono (by simp)))
      obtain ⟨x0, x1, x2⟩ := word_cells hb32
      clear hC2 hC hb2 hb3 hmo hP z0 z1 z2 zf0 zf1 zf2
      replace hb22 := Lib.hid hb22
      replace hb32 := Lib.hid hb32
      rcases hcase with ⟨rfl, rfl, hbr, hd0, hd64⟩ | ⟨rfl, p, rfl, hbr⟩
      · have hnone : s[i]? = none := List.getElem?_eq_none (by have := hlt; omega)
        have hE := Lib.hid (hbr.out.trans (braced_none hnone))
        replace hP2 := Lib.hid hP2
        clear hlt hbr hnone x1 x2
        go_wp2_with fail
        refine (fail_ref w2 g B i a f 5 v0 hP2.out).mono ?_
        rintro e' w3 ⟨rfl, hP3, hC3⟩
        have hb23 := hC3.heap hb22.out (by simp; have := hg; omega)
        have hb33 := hC3.heap hb32.out (by simp; have := hg; omega)
        obtain ⟨x0, x1, x2⟩ := word_cells hb33
        obtain ⟨z0, z1, z2⟩ := word_cells hb23
        have zf0 := word_frozen hb23 0
        have zf1 := word_frozen hb23 1
        have zf2 := word_frozen hb23 2
        replace hCC := Lib.hid (hCC.out.trans hC3)
        replace hP3 := Lib.hid hP3
        replace hb23 := Lib.hid hb23
        clear hb33 hb32 hb22 hC3 hP2
        go_wp2_with fail
        obtain ⟨q1, q2, q3, q4⟩ := rb_fin (f := f) (v := .slice none 0 0) hb23.out hCC.out hP3.out (Nat.le_of_eq hB2) hg
        generalize (((w3.setCell ⟨b2, 0, none⟩ (.int .i64 f)).setCell ⟨b2, 1, none⟩ (.int .i64 2)).setCell ⟨b2, 2, none⟩ (.slice none 0 0)) = w' at q1 q2 q3 ⊢
        refine bodyPost_ret (v := .agg #[.int .i64 f, .int .i64 2, .slice none 0 0]) ?_ rfl ⟨_, rfl, q2, .inr ⟨f, 5, i, hE.out, q3, rfl, by decide⟩⟩
        exact results_cell1 rfl _ _ b2 38 _ (0, 0) _ rfl q1 Try.underlying38 rfl (by kernel_rfl)
      · replace hP2 := Lib.hid hP2
        clear hlt x1 x2
        go_wp2_with fail
        refine (fail_ref2 w2 g B i 7 p f 5 v0 (by decide) hP2.out).mono ?_
        rintro e' w3 ⟨rfl, hC3⟩
        have hb23 := hC3.heap hb22.out (by simp)
        have hb33 := hC3.heap hb32.out (by simp)
        obtain ⟨x0, x1, x2⟩ := word_cells hb33
        obtain ⟨z0, z1, z2⟩ := word_cells hb23
        have zf0 := word_frozen hb23 0
        have zf1 := word_frozen hb23 1
        have zf2 := word_frozen hb23 2
        replace hCC := Lib.hid (hCC.out.trans (hC3.mono (by simp)))
        have hP3 := Lib.hid (hP2.out.chg hC3 (by simp))
        replace hb23 := Lib.hid hb23
        clear hb33 hb32 hb22 hC3 hP2
        go_wp2_with fail
        obtain ⟨q1, q2, q3, q4⟩ := rb_fin (f := f) (v := .slice none 0 0) hb23.out hCC.out hP3.out (Nat.le_of_eq hB2) hg
        generalize (((w3.setCell ⟨b2, 0, none⟩ (.int .i64 f)).setCell ⟨b2, 1, none⟩ (.int .i64 2)).setCell ⟨b2, 2, none⟩ (.slice none 0 0)) = w' at q1 q2 q3 ⊢
        refine bodyPost_ret (v := .agg #[.int .i64 f, .int .i64 2, .slice none 0 0]) ?_ rfl ⟨_, rfl, q2, .inr ⟨p, 7, i, hbr.out, q3, rfl, by decide⟩⟩
        exact results_cell1 rfl _ _ b2 38 _ (0, 0) _ rfl q1 Try.underlying38 rfl (by kernel_rfl)
    · obtain ⟨hlt, rfl⟩ := hlt
      obtain ⟨rfl, hbr, hd0, hd64⟩ : a = a0 ∧ Hid (braced s f f 0 = braced s f i d) ∧ (d = 0 → i = f) ∧ d ≤ 64 := by
        rcases hcase with ⟨_, h1, h2, h3, h4⟩ | ⟨h, _⟩
        · exact ⟨h1, h2, h3, h4⟩
        · cases h
      clear hcase
      have hP' : RP wr g B i 0 a v0 := hP
      have hmo := Lib.hid (more_ref wr g B i 0 a v0 hP' true (by simp; omega))
      replace hP' := Lib.hid hP'
      clear hP c2 c3 x0 x1 x2 z0 z1 z2 zf0 zf1 zf2
      go_wp2_with fail
      refine (hmo.out).mono ?_
      rintro e' w2 ⟨rfl, hC2⟩
      have hb22 := hC2.heap hb2.out (by simp)
      have hb32 := hC2.heap hb3.out (by simp)
      have hP2 := hP'.out.chg hC2 (by simp)
      have hCC := hC.out.trans (hC2.mono (by simp))
      clear hC2 hC hb2 hb3 hmo hP' c0 c1
      obtain ⟨c0, c1, -, -, -⟩ := hP2.c0
      replace hb22 := Lib.hid hb22
      replace hb32 := Lib.hid hb32
      replace hP2 := Lib.hid hP2
      replace hCC := Lib.hid hCC
      have hlB : i < B.size := by omega
      obtain ⟨c, hc⟩ : ∃ c, B[i]'hlB = c := ⟨_, rfl⟩
      have hsc : s[i]? = some c := by rw [hby.out i hlB, hc]
      have hstep := hbr.out.trans (braced_some hsc)
      replace hstep := Lib.hid hstep
      go_wp2_with fail
      go_quiet (fail)
      have hP3 : RP (w2.drewN nq) g B i 0 a v0 := hP2.out
      have hb23 : (w2.drewN nq).heap[b2]? = some (.cells #[.int .i64 0, .int .i64 0, .slice none 0 0] 38 (0, 0)) := hb22.out
      have hb33 : (w2.drewN nq).heap[b2 + 1]? = some (.cells #[.int .i64 f, .int .i64 2, .slice none 0 0] 38 (0, 0)) := hb32.out
      have hC3 := hCC.out.drewN nq
      clear hP2 hb22 hb32 hCC c0 c1
      generalize w2.drewN nq = w3 at hP3 hb23 hb33 hC3 ⊢
      have hput := fun (j : Int) => rb_put hP3 hb23 hb33 hC3 hg j
      obtain ⟨c0, c1, c2, c3, -⟩ := hP3.c0
      have f1 := hP3.f0 1
      replace hput := Lib.hid hput
      replace hP3 := Lib.hid hP3
      replace hb23 := Lib.hid hb23
      replace hb33 := Lib.hid hb33
      replace hC3 := Lib.hid hC3
      by_cases h1 : c = 92
      · subst h1
        have hb' : Hid (braced s f f 0 = braced s f (i + 2) d) := Lib.hid (by rw [hstep.out, if_pos rfl])
        have hd0' : d = 0 → i + 2 = f := fun h0 => by have := hd0 h0; subst this; rw [hf] at hsc; cases hsc
        obtain ⟨q1, q2, q3, q4⟩ := hput.out ((i + 2 : Nat) : Int)
        replace q1 := Lib.hid q1
        clear hstep hput
        go_wp2_with fail
        go_roundg (s.length + 1 - (i + 2))
        case measure => omega
        case rel => exact ⟨i + 2, d, 0, a, rfl, q1.out, q2, q3, q4, by omega, by omega, rfl, .inl ⟨rfl, rfl, hb', hd0', hd64⟩⟩
      have e1 := u8n (n := 92) h1
      have hb1 := hstep.out.trans (if_neg h1)
      obtain ⟨q1, q2, q3, q4⟩ := hput.out ((i : Int) + 1)
      have e7 : ((i + 1 : Nat) : Int) = (i : Int) + 1 := by omega
      replace q1 := Lib.hid q1
      by_cases h2 : c = 123
      · subst h2
        by_cases hd : d + 1 > 64
        · have hE : Hid (braced s f f 0 = .error (i, 7)) := Lib.hid (hb1.trans ((if_pos rfl).trans (if_pos hd)))
          have hd' : d = 64 := by omega
          subst hd'
          clear hb1 hstep q1 q2 q3 q4 hput
          go_wp2_with fail
          refine (fail_ref w3 g B i a i 7 v0 hP3.out).mono ?_
          rintro e w4 ⟨rfl, hP4, hC4⟩
          have hb24 := hC4.heap hb23.out (by simp; have := hg; omega)
          have hb34 := hC4.heap hb33.out (by simp; have := hg; omega)
          obtain ⟨q1, q2, q3, q4⟩ := rb_put hP4 hb24 hb34 (hC3.out.trans hC4) hg ((i : Int) + 1)
          clear c0 c1 c2 c3 f1 hP3 hb23 hb33 hC3 hb24 hb34 hC4
          obtain ⟨c0, c1, c2, c3, -⟩ := hP4.c0
          have f1 := hP4.f0 1
          replace q1 := Lib.hid q1
          replace hP4 := Lib.hid hP4
          go_wp2_with fail
          go_roundg (s.length + 1 - (i + 1))
          case measure => omega
          case rel => exact ⟨i + 1, 65, 7, i, rfl, by rw [e7]; exact q1.out, q2, q3, q4, by omega, by omega, rfl, .inr ⟨rfl, i, rfl, hE⟩⟩
        · have hb' : Hid (braced s f f 0 = braced s f (i + 1) (d + 1)) := hb1.trans ((if_pos rfl).trans (if_neg hd))
          clear hb1 hstep hput
          have hnz : (((d : Int) + 1) == 0) = false := by rw [beq_eq_false_iff_ne]; omega
          go_wp2_with fail
          go_roundg (s.length + 1 - (i + 1))
          case measure => omega
          case rel => exact ⟨i + 1, d + 1, 0, a, by go_num, by rw [e7]; exact q1.out, q2, q3, q4, by omega, by omega, rfl, .inl ⟨rfl, rfl, hb', fun h => absurd h (by omega), by omega⟩⟩
      have e2 := u8n (n := 123) h2
      replace hb1 := hb1.trans (if_neg h2)
      have hdn : d ≠ 0 := fun h0 => by have := hd0 h0; subst this; rw [hf] at hsc; cases hsc; exact h2 rfl
      obtain ⟨d, rfl⟩ : ∃ d', d = d' + 1 := ⟨d - 1, by omega⟩
      by_cases h3 : c = 125
      · subst h3
        by_cases hd : d + 1 > 1
        · have hb' : Hid (braced s f f 0 = braced s f (i + 1) d) := hb1.trans ((if_pos rfl).trans (if_pos hd))
          clear hb1 hstep hput
          have hnz : ((d : Int) == 0) = false := by rw [beq_eq_false_iff_ne]; omega
          go_wp2_with fail
          go_roundg (s.length + 1 - (i + 1))
          case measure => omega
          case rel => exact ⟨i + 1, d, 0, a, by go_num, by rw [e7]; exact q1.out, q2, q3, q4, by omega, by omega, rfl, .inl ⟨rfl, rfl, hb', fun h => absurd h (by omega), by omega⟩⟩
        · have hE := Lib.hid (hb1.trans ((if_pos rfl).trans (if_neg hd)))
          obtain rfl : d = 0 := by omega
          clear hb1 hstep hput
          go_upto_region 15 with fail
          have hfi2 : f + 1 ≤ i := by
            rcases Nat.lt_or_ge f i with h | h
            · exact h
            · have : i = f := by omega
              subst this; rw [hf] at hsc; cases hsc
          clear hP3 hb23 hb33 hC3 c0 c1 c2 c3 f1
          generalize w3.setCell ⟨g, 1, none⟩ (.int .i64 ((i : Int) + 1)) = w4 at q1 q2 q3 q4 ⊢
          obtain ⟨c0, c1, -, -, -⟩ := q1.out.c0
          obtain ⟨x0, x1, x2⟩ := word_cells q3.out
          have hsl : ∀ w : World, (Instr.slice 9 (.string B) (some (.int .i64 ((f : Int) + 1))) (some (.int .i64 (i : Int))) none).run Try.prog w = .ok (.string (B.extract (f + 1) i)) w := fun w => by
            have h := run_slice_string (P := Try.prog) w 9 B .i64 .i64 ((f : Int) + 1) (i : Int) Try.underlying9 (by omega) (by omega) (by omega)
            rw [h, show ((f : Int) + 1).toNat = f + 1 by omega, show ((i : Int)).toNat = i by omega]
          have ew : IntKind.i64.wrap ((i : Int)) = (i : Int) := IntWalk.i64_in _ (by omega)
          have ew2 : IntKind.i64.wrap ((f : Int) + 1) = (f : Int) + 1 := IntWalk.i64_in _ (by omega)
          go_quiet (fail)
          have k1 : RP (w4.drewN nq) g B ((i : Int) + 1) 0 a v0 := q1.out
          have k2 : (w4.drewN nq).heap[b2]? = some (.cells #[.int .i64 0, .int .i64 0, .slice none 0 0] 38 (0, 0)) := q2.out
          have k3 : (w4.drewN nq).heap[b2 + 1]? = some (.cells #[.int .i64 f, .int .i64 2, .slice none 0 0] 38 (0, 0)) := q3.out
          have k4 := q4.out.drewN nq
          clear q1 q2 q3 q4 c0 c1 x0 x1 x2 hsl ew ew2
          generalize w4.drewN nq = w5 at k1 k2 k3 k4 ⊢
          have k5 := lt_heap k3
          have zf0 := word_frozen k2 0
          have zf1 := word_frozen k2 1
          have zf2 := word_frozen k2 2
          by_cases hj : i = f + 1
          · have hemp : B.extract (f + 1) i = ⟨#[]⟩ := by
              rw [hex.out, hj]
              have : sub s (f + 1) (f + 1) = [] := by unfold sub; rw [List.drop_eq_nil_of_le (by rw [List.length_take]; omega)]
              rw [this]; rfl
            rw [hemp]
            obtain ⟨x0, x1, x2⟩ := word_cells k3
            obtain ⟨z0, z1, z2⟩ := word_cells k2
            replace k1 := Lib.hid k1
            replace k2 := Lib.hid k2
            replace k3 := Lib.hid k3
            replace k4 := Lib.hid k4
            replace hj := Lib.hid hj
            clear hemp k5
            go_wp2_with fail
            obtain ⟨q1, q2, q3, q4⟩ := rb_fin (f := f) (v := .slice none 0 0) k2.out k4.out k1.out (Nat.le_of_eq hB2) hg
            generalize (((w5.setCell ⟨b2, 0, none⟩ (.int .i64 f)).setCell ⟨b2, 1, none⟩ (.int .i64 2)).setCell ⟨b2, 2, none⟩ (.slice none 0 0)) = w' at q1 q2 q3 ⊢
            refine bodyPost_ret (v := .agg #[.int .i64 f, .int .i64 2, .slice none 0 0]) ?_ rfl ⟨_, rfl, q2, .inl ⟨i + 1, hE.out, by rw [e7]; exact q3, by rw [if_pos (by have := hj.out; omega)]; exact Sl.nil _ _, by simp [Value.ownBlock]⟩⟩
            exact results_cell1 rfl _ _ b2 38 _ (0, 0) _ rfl q1 Try.underlying38 rfl (by kernel_rfl)
          · have hne : (B.extract (f + 1) i).toList.isEmpty = false := by
              rw [hex.out, ByteArray.toList_eq]
              have hl : (sub s (f + 1) i).length = i - (f + 1) := by unfold sub; simp; omega
              cases h0 : sub s (f + 1) i with
              | nil => rw [h0] at hl; simp at hl; omega
              | cons x r => rfl
            have hne2 : ¬ (B.extract (f + 1) i).toList = [] := by
              intro h; rw [h] at hne; cases hne
            have hA := (Chg.refl [] w5).alloc (.cells #[.bool false, .string (B.extract (f + 1) i)] 42)
            have y2 := word_frozen (hA.heap k3 (by simp)) 2
            obtain ⟨-, -, y3⟩ := word_cells (hA.heap k3 (by simp))
            have hSl := sl_wide_new w5 [.bool false, .string (B.extract (f + 1) i)] 42 2 rfl
            have r1 := k1.chg hA (by simp)
            have r2 := hA.heap k2 (by simp)
            have r3 := hA.heap k3 (by simp)
            have r4 := k4.alloc (.cells #[.bool false, .string (B.extract (f + 1) i)] 42)
            have hT : Chg [b2 + 1] (w5.alloc (.cells #[.bool false, .string (B.extract (f + 1) i)] 42)) ((w5.alloc (.cells #[.bool false, .string (B.extract (f + 1) i)] 42)).setCell ⟨b2 + 1, 2, none⟩ (.slice (some ⟨w5.heap.size, 0, none⟩) 1 1)) := (Chg.refl [b2 + 1] _).setCell (.inl (by simp)) _
            have t1 := r1.chg hT (by simp; omega)
            have t2 := hT.heap r2 (by simp)
            have t3 : ((w5.alloc (.cells #[.bool false, .string (B.extract (f + 1) i)] 42)).setCell ⟨b2 + 1, 2, none⟩ (.slice (some ⟨w5.heap.size, 0, none⟩) 1 1)).heap[b2 + 1]? = some (.cells #[.int .i64 f, .int .i64 2, .slice (some ⟨w5.heap.size, 0, none⟩) 1 1] 38 (0, 0)) := by simpa using blk_set r3 2 (.slice (some ⟨w5.heap.size, 0, none⟩) 1 1)
            have t4 := r4.setCell (p := ⟨b2 + 1, 2, none⟩) (.inr (hnew.out _ (by simp))) (.slice (some ⟨w5.heap.size, 0, none⟩) 1 1)
            have t5 := hSl.chg hT (by intro _ q hq hm; simp [Value.ownBlock] at hq hm; omega)
            have hs5 : w.heap.size ≤ w5.heap.size := k4.size
            replace t1 := Lib.hid t1
            replace t2 := Lib.hid t2
            replace t3 := Lib.hid t3
            replace t4 := Lib.hid t4
            replace t5 := Lib.hid t5
            replace hs5 := Lib.hid hs5
            have hk5 := Lib.hid k5
            clear hA hSl r1 r2 r3 r4 hT k1 k2 k3 k4 k5 zf0 zf1 zf2
            go_upto_region 18 with fail
            generalize (w5.alloc (.cells #[.bool false, .string (B.extract (f + 1) i)] 42)).setCell ⟨b2 + 1, 2, none⟩ (.slice (some ⟨w5.heap.size, 0, none⟩) 1 1) = w7 at t1 t2 t3 t4 t5 ⊢
            obtain ⟨x0, x1, x2⟩ := word_cells t3.out
            obtain ⟨z0, z1, z2⟩ := word_cells t2.out
            have zf0 := word_frozen t2.out 0
            have zf1 := word_frozen t2.out 1
            have zf2 := word_frozen t2.out 2
            clear y2 y3 hne hne2
            go_wp2_with fail
            obtain ⟨q1, q2, q3, q4⟩ := rb_fin (f := f) (v := .slice (some ⟨w5.heap.size, 0, none⟩) 1 1) t2.out t4.out t1.out (Nat.le_of_eq hB2) hg
            have q5 := t5.out.chg q4 (by intro _ q hq hm; simp [Value.ownBlock] at hq hm; have := hk5.out; omega)
            generalize (((w7.setCell ⟨b2, 0, none⟩ (.int .i64 f)).setCell ⟨b2, 1, none⟩ (.int .i64 2)).setCell ⟨b2, 2, none⟩ (.slice (some ⟨w5.heap.size, 0, none⟩) 1 1)) = w' at q1 q2 q3 q5 ⊢
            refine bodyPost_ret (v := .agg #[.int .i64 f, .int .i64 2, .slice (some ⟨w5.heap.size, 0, none⟩) 1 1]) ?_ rfl ⟨_, rfl, q2, .inl ⟨i + 1, hE.out, by rw [e7]; exact q3, ?_, fun q hq => by simp [Value.ownBlock] at hq; have := hs5.out; omega⟩⟩
            · exact results_cell1 rfl _ _ b2 38 _ (0, 0) _ rfl q1 Try.underlying38 rfl (by kernel_rfl)
            · rw [if_neg (by omega), Nat.add_sub_cancel]
              rw [hex.out] at q5
              exact q5
      · have e3 := u8n (n := 125) h3
        have hb' : Hid (braced s f f 0 = braced s f (i + 1) (d + 1)) := hb1.trans (if_neg h3)
        clear hb1 hstep hput
        have hnz : (((d : Int) + 1) == 0) = false := by rw [beq_eq_false_iff_ne]; omega
        go_wp2_with fail
        go_roundg (s.length + 1 - (i + 1))
        case measure => omega
        case rel => exact ⟨i + 1, d + 1, 0, a, by go_num, by rw [e7]; exact q1.out, q2, q3, q4, by omega, by omega, rfl, .inl ⟨rfl, rfl, hb', fun h => absurd h (by omega), by omega⟩⟩
end Rt
end Go.Proofs.Ytakcolililbkjaa
namespace Go.Proofs.Ytakcolililbkjaa
open Tcl
namespace Rt
/-- A byte more of the last text. -/
def addP (ps : List Part) (c : UInt8) : List Part :=
  match ps.getLast? with
  | some p => if p.var then ps ++ [⟨false, [c]⟩] else ps.dropLast ++ [⟨false, p.s ++ [c]⟩]
  | none => [⟨false, [c]⟩]
/-- No text stands last. -/
def Open (l : List Part) : Prop := ∀ p, l.getLast? = some p → p.var = true
theorem open_nil : Open [] := fun p h => by cases h
theorem open_var (l : List Part) (s : List UInt8) : Open (l ++ [⟨true, s⟩]) := fun p h => by
  rw [List.getLast?_append] at h
  simp at h
  rw [← h]
theorem add_flush {l : List Part} (h : Open l) (t : List UInt8) (c : UInt8) : addP (flush l t) c = flush l (t ++ [c]) := by
  have hne : t ++ [c] ≠ [] := by simp
  unfold flush
  rw [if_neg hne]
  by_cases ht : t = []
  · subst ht
    rw [if_pos rfl]
    unfold addP
    cases hl : l.getLast? with
    | none => rw [List.getLast?_eq_none_iff.1 hl]; rfl
    | some p => simp only; rw [if_pos (h p hl)]; rfl
  · rw [if_neg ht]
    unfold addP
    simp
end Rt
end Go.Proofs.Ytakcolililbkjaa
namespace Go.Proofs.Ytakcolililbkjaa
open Go.RowKit Tcl PPlanParses YtakcolililbkjaaW.PrintWords
namespace Rt
/-- What `add` tells. -/
def AddEnd (w : World) (base : Nat) (v : Value) (ps : List Part) (c : UInt8) (e : Ending) (w' : World) : Prop :=
  ∃ A n c', e = .returned (.slice A n c') ∧ n = (addP ps c).length ∧ w'.ownsRow base 42 2 (.slice A n c') n (partsCells (addP ps c)) ∧ Chg v.ownBlock.toList w w' ∧
    ((Value.slice A n c').ownBlock = v.ownBlock ∨ ∀ q, (Value.slice A n c').ownBlock = some q → w.heap.size ≤ q)
set_option maxRecDepth 100000 in
set_option maxHeartbeats 4000000 in
theorem add_new (w : World) (base : Nat) (A : Option Addr) (n c0 : Nat) (ps : List Part) (c : UInt8) (hn : ps.length = n) (hn9 : n ≤ 100000) (ho : Open ps) (hO : w.ownsRow base 42 2 (.slice A n c0) n (partsCells ps)) (hb : base ≤ w.heap.size) :
    Calls Try.prog 58 #[.slice A n c0, .int .u8 c.toNat] w (AddEnd w base (.slice A n c0) ps c) := by
  have hadd : addP ps c = ps ++ [⟨false, [c]⟩] := by
    unfold addP
    cases hl : ps.getLast? with
    | none => rw [List.getLast?_eq_none_iff.1 hl]; rfl
    | some p => simp only; rw [if_pos (ho p hl)]
  unfold AddEnd
  rw [hadd]
  replace hO := Lib.hid hO
  replace hadd := Lib.hid hadd
  have hcv := sl_string (P := Try.prog) (show Sl (w.alloc (.cells #[.int .u8 c.toNat] 5)) 1 (.slice (some ⟨w.heap.size, 0, none⟩) 1 1) 1 (cellsOf .u8 (nums [c])) from sl_new w [.int .u8 c.toNat] 5 1 rfl (by decide)) 22 5 9 Try.underlying22 Try.underlying5 Try.underlying9
  rw [str_nums] at hcv
  have hC2 := ((Chg.refl [] w).alloc (.cells #[.int .u8 c.toNat] 5)).alloc (.cells #[.bool false, .string (bstr [c])] 42)
  have hO2 := own_chg hO.out hC2 (by simp)
  have hsz : (w.alloc (.cells #[.int .u8 c.toNat] 5)).heap.size = w.heap.size + 1 := Array.size_push ..
  have hx : Sl ((w.alloc (.cells #[.int .u8 c.toNat] 5)).alloc (.cells #[.bool false, .string (bstr [c])] 42)) 2 (.slice (some ⟨w.heap.size + 1, 0, none⟩) 1 1) 1 (partCells ⟨false, [c]⟩) := by
    have := sl_wide_new (w.alloc (.cells #[.int .u8 c.toNat] 5)) [.bool false, .string (bstr [c])] 42 2 rfl
    rwa [hsz] at this
  have hb2 : base ≤ ((w.alloc (.cells #[.int .u8 c.toNat] 5)).alloc (.cells #[.bool false, .string (bstr [c])] 42)).heap.size := Nat.le_trans hb hC2.size
  replace hC2 := Lib.hid hC2
  replace hO2 := Lib.hid hO2
  replace hx := Lib.hid hx
  replace hb2 := Lib.hid hb2
  by_cases h0 : n = 0
  · subst h0
    go_enter Try.func58, Try.ntmps58
    go_wp2_with (at_builtin; refine wpList_append_sl rfl (.tmp 18) (.tmp 23) 36 rfl base 42 (.agg #[.bool false, .string ByteArray.empty]) 2 24 Try.underlying36 Try.info_part rfl (by decide) (.slice A 0 c0) 0 (partsCells ps) rfl hO2.out (.slice (some ⟨w.heap.size + 1, 0, none⟩) 1 1) 1 (partCells ⟨false, [c]⟩) rfl hx.out (by intro u hu; simp [partCells] at hu; rcases hu with rfl | rfl <;> rfl) 1 rfl (by omega) (by decide) hb2.out ?_)
    intro A' c' w5 hO' hCh hat
    replace hO' := Lib.hid hO'
    replace hCh := Lib.hid hCh
    replace hat := Lib.hid hat
    go_wp2_with fail
    go_ret
    refine ⟨_, _, _, rfl, by simp [hn], ?_, (hC2.out.mono (by simp)).trans hCh.out, ?_⟩
    · have e : partsCells (ps ++ [⟨false, [c]⟩]) = partsCells ps ++ partCells ⟨false, [c]⟩ := by simp [partsCells]
      rw [e]; exact hO'.out
    · rcases hat.out with e | e
      · exact .inl e
      · exact .inr (fun q hq => by have h1 := e q hq; have h2 := hC2.out.size; omega)
  · have hlast : ∃ p, ps.getLast? = some p ∧ p.var = true := by
      cases hl : ps.getLast? with
      | none => rw [List.getLast?_eq_none_iff.1 hl] at hn; exact absurd hn.symm h0
      | some p => exact ⟨p, rfl, ho p hl⟩
    obtain ⟨p, hp, hpv⟩ := hlast
    have hpn : ps[n - 1]? = some p := by rw [List.getLast?_eq_getElem?] at hp; rw [← hn]; exact hp
    obtain ⟨g, rfl⟩ : ∃ g, A = some ⟨g, 0, none⟩ := by
      rcases hO.out.2 with ⟨h1, h2⟩ | ⟨g, cap, cur, h1, _⟩
      · exact absurd h2 h0
      · simp at h1; exact ⟨g, h1.1⟩
    have hc0 : w.cell? ⟨g, (n - 1) * 2, none⟩ = some (.bool true) := by
      have h1 := (parts_get ps (n - 1) p hpn).1
      have := hO.out.cells (g := g) rfl _ _ h1
      rw [hpv] at this
      have ha : (⟨g, 0, none⟩ : Addr).add ((n - 1) * 2) = ⟨g, (n - 1) * 2, none⟩ := by unfold Addr.add; split <;> simp_all
      rwa [ha] at this
    obtain ⟨m, rfl⟩ : ∃ m, n = m + 1 := ⟨n - 1, by omega⟩
    rw [Nat.add_sub_cancel] at hc0
    go_enter Try.func58, Try.ntmps58
    go_wp2_with (at_builtin; refine wpList_append_sl rfl (.tmp 18) (.tmp 23) 36 rfl base 42 (.agg #[.bool false, .string ByteArray.empty]) 2 24 Try.underlying36 Try.info_part rfl (by decide) (.slice (some ⟨g, 0, none⟩) (m + 1) c0) (m + 1) (partsCells ps) rfl hO2.out (.slice (some ⟨w.heap.size + 1, 0, none⟩) 1 1) 1 (partCells ⟨false, [c]⟩) rfl hx.out (by intro u hu; simp [partCells] at hu; rcases hu with rfl | rfl <;> rfl) (m + 1 + 1) rfl (by omega) (by decide) hb2.out ?_)
    intro A' c' w5 hO' hCh hat
    replace hO' := Lib.hid hO'
    replace hCh := Lib.hid hCh
    replace hat := Lib.hid hat
    go_wp2_with fail
    go_ret
    refine ⟨_, _, _, rfl, by simp [hn], ?_, (hC2.out.mono (by simp)).trans hCh.out, ?_⟩
    · have e : partsCells (ps ++ [⟨false, [c]⟩]) = partsCells ps ++ partCells ⟨false, [c]⟩ := by simp [partsCells]
      rw [e]; exact hO'.out
    · rcases hat.out with e | e
      · exact .inl e
      · exact .inr (fun q hq => by have h1 := e q hq; have h2 := hC2.out.size; omega)
theorem set_last {qs : List Part} {m : Nat} {t : List UInt8} {c : UInt8} (hn : qs.length = m) : (partsCells (qs ++ [⟨false, t⟩])).set (m * 2 + 1) (.string (bstr t ++ bstr [c])) = partsCells (qs ++ [⟨false, t ++ [c]⟩]) := by
  have hb : bstr t ++ bstr [c] = bstr (t ++ [c]) := by
    apply ByteArray.ext
    simp [bstr]
  have e : ∀ t', partsCells (qs ++ [⟨false, t'⟩]) = partsCells qs ++ [.bool false, .string (bstr t')] := fun t' => by simp [partsCells, partCells]
  have hl : (partsCells qs).length = m * 2 := by rw [← hn]; clear hn e; induction qs with
    | nil => rfl
    | cons p r ih => simp [partsCells, partCells] at ih ⊢; omega
  rw [e, e, hb, List.set_append_right _ _ (by omega), hl, show m * 2 + 1 - m * 2 = 1 by omega]
  rfl
set_option maxRecDepth 100000 in
set_option maxHeartbeats 4000000 in
theorem add_last (w : World) (base : Nat) (A : Option Addr) (m c0 : Nat) (qs : List Part) (t : List UInt8) (c : UInt8) (hn : qs.length = m) (hn9 : m ≤ 100000) (ht : t.length ≤ 100000) (hO : w.ownsRow base 42 2 (.slice A (m + 1) c0) (m + 1) (partsCells (qs ++ [⟨false, t⟩]))) (hb : base ≤ w.heap.size) :
    Calls Try.prog 58 #[.slice A (m + 1) c0, .int .u8 c.toNat] w (AddEnd w base (.slice A (m + 1) c0) (qs ++ [⟨false, t⟩]) c) := by
  have hadd : addP (qs ++ [⟨false, t⟩]) c = qs ++ [⟨false, t ++ [c]⟩] := by unfold addP; simp
  unfold AddEnd
  rw [hadd]
  have hpn : (qs ++ [(⟨false, t⟩ : Part)])[m]? = some ⟨false, t⟩ := by rw [List.getElem?_append_right (by omega), hn, Nat.sub_self]; rfl
  obtain ⟨g, rfl⟩ : ∃ g, A = some ⟨g, 0, none⟩ := by
    rcases hO.2 with ⟨h1, h2⟩ | ⟨g, cap, cur, h1, _⟩
    · exact absurd h2 (by omega)
    · simp at h1; exact ⟨g, h1.1⟩
  have hg0 := hO.lt g rfl
  have hcell : ∀ j u, (partsCells (qs ++ [⟨false, t⟩]))[j]? = some u → w.cell? ⟨g, j, none⟩ = some u := fun j u h => by
    have := hO.cells (g := g) rfl _ _ h
    have ha : (⟨g, 0, none⟩ : Addr).add j = ⟨g, j, none⟩ := by unfold Addr.add; split <;> simp_all
    rwa [ha] at this
  have hc0 := hcell _ _ (parts_get _ m _ hpn).1
  have hc1 := hcell _ _ (parts_get _ m _ hpn).2
  simp only at hc0 hc1
  have hld : ∀ w', Chg [] w w' → w'.cell? ⟨g, m * 2 + 1, none⟩ = some (.string (bstr t)) := fun w' h => h.cell hc1 (by simp)
  have hcv : (convert 22 9 (.slice (some ⟨w.heap.size, 0, none⟩) 1 1)).run Try.prog (w.alloc (.cells #[.int .u8 c.toNat] 5)).drew = .ok (.string (bstr [c])) (w.alloc (.cells #[.int .u8 c.toNat] 5)).drew := by
    have hq : Sl (w.alloc (.cells #[.int .u8 c.toNat] 5)) 1 (.slice (some ⟨w.heap.size, 0, none⟩) 1 1) 1 (cellsOf .u8 (nums [c])) := sl_new w [.int .u8 c.toNat] 5 1 rfl (by decide)
    have := sl_string (P := Try.prog) (hq.chg (Chg.refl [] _).drew (by simp)) 22 5 9 Try.underlying22 Try.underlying5 Try.underlying9
    rwa [str_nums] at this
  have hcat : ¬ (9223372036854775807 < (bstr t).size + (bstr [c]).size) := by rw [bstr_size, bstr_size]; simp; omega
  have hC2 := ((Chg.refl [] w).alloc (.cells #[.int .u8 c.toNat] 5)).drew
  have hs1 := hld _ hC2
  have hO2 := own_chg hO hC2 (by simp)
  have hs2 : (w.alloc (.cells #[.int .u8 c.toNat] 5)).drew.frozen? ⟨g, m * 2 + 1, none⟩ = false := hO2.frozenAt _
  replace hO2 := Lib.hid hO2
  replace hC2 := Lib.hid hC2
  replace hO := Lib.hid hO
  replace hadd := Lib.hid hadd
  clear hcell
  go_enter Try.func58, Try.ntmps58
  go_upto_region 4 with fail
  refine wp_region_any (by kernel_rfl) ?_
  (try (change wpAny _ _ _ _ _ _ _ (World.drew _)))
  refine wpAny_take (i := 0) (v := ?_) rfl (by kernel_rfl) (by kernel_rfl) (by kernel_rfl) (fun _ _ _ h => h) (Or.inl ⟨by kernel_rfl, ?_⟩) ?_
  rotate_left
  · (intro w; go_simp; try with_reducible rfl)
  change wpAny _ _ _ _ _ _ (Act.put _ (some 25) _) _
  (try simp only [Act.put, List.setIfInBounds_toArray, List.set_cons_zero, List.set_cons_succ])
  refine wpAny_take (i := 1) (v := ?_) rfl (by kernel_rfl) (by kernel_rfl) (by kernel_rfl) (fun _ _ _ h => h) (Or.inl ⟨by kernel_rfl, ?_⟩) ?_
  rotate_left
  · (intro w; go_simp; try with_reducible rfl)
  change wpAny _ _ _ _ _ _ (Act.put _ (some 26) _) _
  (try simp only [Act.put, List.setIfInBounds_toArray, List.set_cons_zero, List.set_cons_succ])
  refine wpAny_take (i := 2) (v := ?_) rfl (by kernel_rfl) (by kernel_rfl) (by kernel_rfl) (fun _ _ _ h => h) (Or.inl ⟨by kernel_rfl, ?_⟩) ?_
  rotate_left
  · (intro w; go_simp; try with_reducible rfl)
  change wpAny _ _ _ _ _ _ (Act.put _ (some 27) _) _
  (try simp only [Act.put, List.setIfInBounds_toArray, List.set_cons_zero, List.set_cons_succ])
  refine wpAny_take (i := 3) (v := ?_) rfl (by kernel_rfl) (by kernel_rfl) (by kernel_rfl) (fun _ _ _ h => h) (Or.inl ⟨by kernel_rfl, ?_⟩) ?_
  rotate_left
  · (intro w; go_simp; try with_reducible rfl)
  change wpAny _ _ _ _ _ _ (Act.put _ (some 28) _) _
  (try simp only [Act.put, List.setIfInBounds_toArray, List.set_cons_zero, List.set_cons_succ])
  refine wpAny_take (i := 7) (v := ?_) rfl (by kernel_rfl) (by kernel_rfl) (by kernel_rfl) (fun _ _ _ h => h) (Or.inl ⟨by kernel_rfl, ?_⟩) ?_
  rotate_left
  · (intro w; go_simp; try with_reducible rfl)
  change wpAny _ _ _ _ _ _ (Act.put _ (some 32) _) _
  (try simp only [Act.put, List.setIfInBounds_toArray, List.set_cons_zero, List.set_cons_succ])
  refine wpAny_ready (rs := [4, 8]) (by kernel_rfl) (by simp) ?_
  refine AllReady.cons rfl (fun K hK => ?_) ?_
  · go_simp
    (try (refine hK _ _ ?_; clear hK K))
    (try simp only [Act.put, List.setIfInBounds_toArray, List.set_cons_zero, List.set_cons_succ])
    refine wpAny_take (i := 5) (v := ?_) rfl (by kernel_rfl) (by kernel_rfl) (by kernel_rfl) (fun _ _ _ h => h) (Or.inl ⟨by kernel_rfl, ?_⟩) ?_
    rotate_left
    · (intro w; go_simp; try with_reducible rfl)
    change wpAny _ _ _ _ _ _ (Act.put _ (some 30) _) _
    (try simp only [Act.put, List.setIfInBounds_toArray, List.set_cons_zero, List.set_cons_succ])
    refine wpAny_ready (rs := [6, 8]) (by kernel_rfl) (by simp) ?_
    refine AllReady.cons rfl (fun K hK => ?_) ?_
    · go_simp
      (try (refine hK _ _ ?_; clear hK K))
      (try simp only [Act.put, List.setIfInBounds_toArray, List.set_cons_zero, List.set_cons_succ])
      refine wpAny_ready (rs := [8]) (by kernel_rfl) (by simp) ?_
      refine AllReady.cons rfl (fun K hK => ?_) ?_
      · go_simp
        (try (refine hK _ _ ?_; clear hK K))
        (try simp only [Act.put, List.setIfInBounds_toArray, List.set_cons_zero, List.set_cons_succ])
        refine wpAny_ready (rs := [9]) (by kernel_rfl) (by simp) ?_
        refine AllReady.cons rfl (fun K hK => ?_) ?_
        · go_simp
          (try (refine hK _ _ ?_; clear hK K))
          (try simp only [Act.put, List.setIfInBounds_toArray, List.set_cons_zero, List.set_cons_succ])
          refine wpAny_take (i := 10) (v := ?_) rfl (by kernel_rfl) (by kernel_rfl) (by kernel_rfl) (fun _ _ _ h => h) (Or.inl ⟨by kernel_rfl, ?_⟩) ?_
          rotate_left
          · (intro w; go_simp; try with_reducible rfl)
          change wpAny _ _ _ _ _ _ (Act.put _ (some 35) _) _
          (try simp only [Act.put, List.setIfInBounds_toArray, List.set_cons_zero, List.set_cons_succ])
          refine wpAny_ready (rs := [11]) (by kernel_rfl) (by simp) ?_
          refine AllReady.cons rfl (fun K hK => ?_) ?_
          · go_simp
            (try (refine hK _ _ ?_; clear hK K))
            (try simp only [Act.put, List.setIfInBounds_toArray, List.set_cons_zero, List.set_cons_succ])
            refine wpAny_take (i := 12) (v := ?_) rfl (by kernel_rfl) (by kernel_rfl) (by kernel_rfl) (fun _ _ _ h => h) (Or.inl ⟨by kernel_rfl, ?_⟩) ?_
            rotate_left
            · (intro w; go_simp; try with_reducible rfl)
            change wpAny _ _ _ _ _ _ (Act.put _ (some 37) _) _
            (try simp only [Act.put, List.setIfInBounds_toArray, List.set_cons_zero, List.set_cons_succ])
            refine wpAny_ready (rs := [13]) (by kernel_rfl) (by simp) ?_
            refine AllReady.cons rfl (fun K hK => ?_) ?_
            · go_simp
              (try (refine hK _ _ ?_; clear hK K))
              (try simp only [Act.put, List.setIfInBounds_toArray, List.set_cons_zero, List.set_cons_succ])
              refine wpAny_done (by kernel_rfl) ?_ _
              (try simp only [Act.put, List.setIfInBounds_toArray, List.set_cons_zero, List.set_cons_succ])
              clear hs1 hs2 hc0 hc1 hcv hcat
              have r1 := hO.out.stored (m * 2 + 1) (.string (bstr t ++ bstr [c]))
              have r2 : Chg [g] w (w.setCell ⟨g, m * 2 + 1, none⟩ (.string (bstr t ++ bstr [c]))) := (Chg.refl [g] w).setCell (.inl (by simp)) _
              have r3 := ((Chg.refl [] (w.setCell ⟨g, m * 2 + 1, none⟩ (.string (bstr t ++ bstr [c])))).alloc (.cells #[.int .u8 c.toNat] 5)).drew
              have r4 := own_chg r1.1 r3 (by simp)
              have r5 := r2.trans (r3.mono (by simp))
              rw [set_last hn] at r4
              replace r4 := Lib.hid r4
              replace r5 := Lib.hid r5
              clear r1 r2 r3
              go_wp2_with fail
              go_ret
              exact ⟨_, _, _, rfl, by simp [hn], r4.out, r5.out, .inl rfl⟩
            exact AllReady.nil
          exact AllReady.nil
        exact AllReady.nil
      exact AllReady.nil
    refine AllReady.cons rfl (fun K hK => ?_) ?_
    · go_simp
      (try (refine hK _ _ ?_; clear hK K))
      (try simp only [Act.put, List.setIfInBounds_toArray, List.set_cons_zero, List.set_cons_succ])
      refine wpAny_ready (rs := [6, 9]) (by kernel_rfl) (by simp) ?_
      refine AllReady.cons rfl (fun K hK => ?_) ?_
      · go_simp
        (try (refine hK _ _ ?_; clear hK K))
        (try simp only [Act.put, List.setIfInBounds_toArray, List.set_cons_zero, List.set_cons_succ])
        refine wpAny_ready (rs := [9]) (by kernel_rfl) (by simp) ?_
        refine AllReady.cons rfl (fun K hK => ?_) ?_
        · go_simp
          (try (refine hK _ _ ?_; clear hK K))
          (try simp only [Act.put, List.setIfInBounds_toArray, List.set_cons_zero, List.set_cons_succ])
          refine wpAny_take (i := 10) (v := ?_) rfl (by kernel_rfl) (by kernel_rfl) (by kernel_rfl) (fun _ _ _ h => h) (Or.inl ⟨by kernel_rfl, ?_⟩) ?_
          rotate_left
          · (intro w; go_simp; try with_reducible rfl)
          change wpAny _ _ _ _ _ _ (Act.put _ (some 35) _) _
          (try simp only [Act.put, List.setIfInBounds_toArray, List.set_cons_zero, List.set_cons_succ])
          refine wpAny_ready (rs := [11]) (by kernel_rfl) (by simp) ?_
          refine AllReady.cons rfl (fun K hK => ?_) ?_
          · go_simp
            (try (refine hK _ _ ?_; clear hK K))
            (try simp only [Act.put, List.setIfInBounds_toArray, List.set_cons_zero, List.set_cons_succ])
            refine wpAny_take (i := 12) (v := ?_) rfl (by kernel_rfl) (by kernel_rfl) (by kernel_rfl) (fun _ _ _ h => h) (Or.inl ⟨by kernel_rfl, ?_⟩) ?_
            rotate_left
            · (intro w; go_simp; try with_reducible rfl)
            change wpAny _ _ _ _ _ _ (Act.put _ (some 37) _) _
            (try simp only [Act.put, List.setIfInBounds_toArray, List.set_cons_zero, List.set_cons_succ])
            refine wpAny_ready (rs := [13]) (by kernel_rfl) (by simp) ?_
            refine AllReady.cons rfl (fun K hK => ?_) ?_
            · go_simp
              (try (refine hK _ _ ?_; clear hK K))
              (try simp only [Act.put, List.setIfInBounds_toArray, List.set_cons_zero, List.set_cons_succ])
              refine wpAny_done (by kernel_rfl) ?_ _
              (try simp only [Act.put, List.setIfInBounds_toArray, List.set_cons_zero, List.set_cons_succ])
              clear hs1 hs2 hc0 hc1 hcv hcat
              have r1 := hO.out.stored (m * 2 + 1) (.string (bstr t ++ bstr [c]))
              have r2 : Chg [g] w (w.setCell ⟨g, m * 2 + 1, none⟩ (.string (bstr t ++ bstr [c]))) := (Chg.refl [g] w).setCell (.inl (by simp)) _
              have r3 := ((Chg.refl [] (w.setCell ⟨g, m * 2 + 1, none⟩ (.string (bstr t ++ bstr [c])))).alloc (.cells #[.int .u8 c.toNat] 5)).drew
              have r4 := own_chg r1.1 r3 (by simp)
              have r5 := r2.trans (r3.mono (by simp))
              rw [set_last hn] at r4
              replace r4 := Lib.hid r4
              replace r5 := Lib.hid r5
              clear r1 r2 r3
              go_wp2_with fail
              go_ret
              exact ⟨_, _, _, rfl, by simp [hn], r4.out, r5.out, .inl rfl⟩
            exact AllReady.nil
          exact AllReady.nil
        exact AllReady.nil
      refine AllReady.cons rfl (fun K hK => ?_) ?_
      · go_simp
        (try (refine hK _ _ ?_; clear hK K))
        (try simp only [Act.put, List.setIfInBounds_toArray, List.set_cons_zero, List.set_cons_succ])
        refine wpAny_ready (rs := [6]) (by kernel_rfl) (by simp) ?_
        refine AllReady.cons rfl (fun K hK => ?_) ?_
        · go_simp
          (try (refine hK _ _ ?_; clear hK K))
          (try simp only [Act.put, List.setIfInBounds_toArray, List.set_cons_zero, List.set_cons_succ])
          refine wpAny_take (i := 10) (v := ?_) rfl (by kernel_rfl) (by kernel_rfl) (by kernel_rfl) (fun _ _ _ h => h) (Or.inl ⟨by kernel_rfl, ?_⟩) ?_
          rotate_left
          · (intro w; go_simp; try with_reducible rfl)
          change wpAny _ _ _ _ _ _ (Act.put _ (some 35) _) _
          (try simp only [Act.put, List.setIfInBounds_toArray, List.set_cons_zero, List.set_cons_succ])
          refine wpAny_ready (rs := [11]) (by kernel_rfl) (by simp) ?_
          refine AllReady.cons rfl (fun K hK => ?_) ?_
          · go_simp
            (try (refine hK _ _ ?_; clear hK K))
            (try simp only [Act.put, List.setIfInBounds_toArray, List.set_cons_zero, List.set_cons_succ])
            refine wpAny_take (i := 12) (v := ?_) rfl (by kernel_rfl) (by kernel_rfl) (by kernel_rfl) (fun _ _ _ h => h) (Or.inl ⟨by kernel_rfl, ?_⟩) ?_
            rotate_left
            · (intro w; go_simp; try with_reducible rfl)
            change wpAny _ _ _ _ _ _ (Act.put _ (some 37) _) _
            (try simp only [Act.put, List.setIfInBounds_toArray, List.set_cons_zero, List.set_cons_succ])
            refine wpAny_ready (rs := [13]) (by kernel_rfl) (by simp) ?_
            refine AllReady.cons rfl (fun K hK => ?_) ?_
            · go_simp
              (try (refine hK _ _ ?_; clear hK K))
              (try simp only [Act.put, List.setIfInBounds_toArray, List.set_cons_zero, List.set_cons_succ])
              refine wpAny_done (by kernel_rfl) ?_ _
              (try simp only [Act.put, List.setIfInBounds_toArray, List.set_cons_zero, List.set_cons_succ])
              clear hs1 hs2 hc0 hc1 hcv hcat
              have r1 := hO.out.stored (m * 2 + 1) (.string (bstr t ++ bstr [c]))
              have r2 : Chg [g] w (w.setCell ⟨g, m * 2 + 1, none⟩ (.string (bstr t ++ bstr [c]))) := (Chg.refl [g] w).setCell (.inl (by simp)) _
              have r3 := ((Chg.refl [] (w.setCell ⟨g, m * 2 + 1, none⟩ (.string (bstr t ++ bstr [c])))).alloc (.cells #[.int .u8 c.toNat] 5)).drew
              have r4 := own_chg r1.1 r3 (by simp)
              have r5 := r2.trans (r3.mono (by simp))
              rw [set_last hn] at r4
              replace r4 := Lib.hid r4
              replace r5 := Lib.hid r5
              clear r1 r2 r3
              go_wp2_with fail
              go_ret
              exact ⟨_, _, _, rfl, by simp [hn], r4.out, r5.out, .inl rfl⟩
            exact AllReady.nil
          exact AllReady.nil
        exact AllReady.nil
      exact AllReady.nil
    exact AllReady.nil
  refine AllReady.cons rfl (fun K hK => ?_) ?_
  · go_simp
    (try (refine hK _ _ ?_; clear hK K))
    (try simp only [Act.put, List.setIfInBounds_toArray, List.set_cons_zero, List.set_cons_succ])
    refine wpAny_ready (rs := [4, 9]) (by kernel_rfl) (by simp) ?_
    refine AllReady.cons rfl (fun K hK => ?_) ?_
    · go_simp
      (try (refine hK _ _ ?_; clear hK K))
      (try simp only [Act.put, List.setIfInBounds_toArray, List.set_cons_zero, List.set_cons_succ])
      refine wpAny_take (i := 5) (v := ?_) rfl (by kernel_rfl) (by kernel_rfl) (by kernel_rfl) (fun _ _ _ h => h) (Or.inl ⟨by kernel_rfl, ?_⟩) ?_
      rotate_left
      · (intro w; go_simp; try with_reducible rfl)
      change wpAny _ _ _ _ _ _ (Act.put _ (some 30) _) _
      (try simp only [Act.put, List.setIfInBounds_toArray, List.set_cons_zero, List.set_cons_succ])
      refine wpAny_ready (rs := [6, 9]) (by kernel_rfl) (by simp) ?_
      refine AllReady.cons rfl (fun K hK => ?_) ?_
      · go_simp
        (try (refine hK _ _ ?_; clear hK K))
        (try simp only [Act.put, List.setIfInBounds_toArray, List.set_cons_zero, List.set_cons_succ])
        refine wpAny_ready (rs := [9]) (by kernel_rfl) (by simp) ?_
        refine AllReady.cons rfl (fun K hK => ?_) ?_
        · go_simp
          (try (refine hK _ _ ?_; clear hK K))
          (try simp only [Act.put, List.setIfInBounds_toArray, List.set_cons_zero, List.set_cons_succ])
          refine wpAny_take (i := 10) (v := ?_) rfl (by kernel_rfl) (by kernel_rfl) (by kernel_rfl) (fun _ _ _ h => h) (Or.inl ⟨by kernel_rfl, ?_⟩) ?_
          rotate_left
          · (intro w; go_simp; try with_reducible rfl)
          change wpAny _ _ _ _ _ _ (Act.put _ (some 35) _) _
          (try simp only [Act.put, List.setIfInBounds_toArray, List.set_cons_zero, List.set_cons_succ])
          refine wpAny_ready (rs := [11]) (by kernel_rfl) (by simp) ?_
          refine AllReady.cons rfl (fun K hK => ?_) ?_
          · go_simp
            (try (refine hK _ _ ?_; clear hK K))
            (try simp only [Act.put, List.setIfInBounds_toArray, List.set_cons_zero, List.set_cons_succ])
            refine wpAny_take (i := 12) (v := ?_) rfl (by kernel_rfl) (by kernel_rfl) (by kernel_rfl) (fun _ _ _ h => h) (Or.inl ⟨by kernel_rfl, ?_⟩) ?_
            rotate_left
            · (intro w; go_simp; try with_reducible rfl)
            change wpAny _ _ _ _ _ _ (Act.put _ (some 37) _) _
            (try simp only [Act.put, List.setIfInBounds_toArray, List.set_cons_zero, List.set_cons_succ])
            refine wpAny_ready (rs := [13]) (by kernel_rfl) (by simp) ?_
            refine AllReady.cons rfl (fun K hK => ?_) ?_
            · go_simp
              (try (refine hK _ _ ?_; clear hK K))
              (try simp only [Act.put, List.setIfInBounds_toArray, List.set_cons_zero, List.set_cons_succ])
              refine wpAny_done (by kernel_rfl) ?_ _
              (try simp only [Act.put, List.setIfInBounds_toArray, List.set_cons_zero, List.set_cons_succ])
              clear hs1 hs2 hc0 hc1 hcv hcat
              have r1 := hO.out.stored (m * 2 + 1) (.string (bstr t ++ bstr [c]))
              have r2 : Chg [g] w (w.setCell ⟨g, m * 2 + 1, none⟩ (.string (bstr t ++ bstr [c]))) := (Chg.refl [g] w).setCell (.inl (by simp)) _
              have r3 := ((Chg.refl [] (w.setCell ⟨g, m * 2 + 1, none⟩ (.string (bstr t ++ bstr [c])))).alloc (.cells #[.int .u8 c.toNat] 5)).drew
              have r4 := own_chg r1.1 r3 (by simp)
              have r5 := r2.trans (r3.mono (by simp))
              rw [set_last hn] at r4
              replace r4 := Lib.hid r4
              replace r5 := Lib.hid r5
              clear r1 r2 r3
              go_wp2_with fail
              go_ret
              exact ⟨_, _, _, rfl, by simp [hn], r4.out, r5.out, .inl rfl⟩
            exact AllReady.nil
          exact AllReady.nil
        exact AllReady.nil
      refine AllReady.cons rfl (fun K hK => ?_) ?_
      · go_simp
        (try (refine hK _ _ ?_; clear hK K))
        (try simp only [Act.put, List.setIfInBounds_toArray, List.set_cons_zero, List.set_cons_succ])
        refine wpAny_ready (rs := [6]) (by kernel_rfl) (by simp) ?_
        refine AllReady.cons rfl (fun K hK => ?_) ?_
        · go_simp
          (try (refine hK _ _ ?_; clear hK K))
          (try simp only [Act.put, List.setIfInBounds_toArray, List.set_cons_zero, List.set_cons_succ])
          refine wpAny_take (i := 10) (v := ?_) rfl (by kernel_rfl) (by kernel_rfl) (by kernel_rfl) (fun _ _ _ h => h) (Or.inl ⟨by kernel_rfl, ?_⟩) ?_
          rotate_left
          · (intro w; go_simp; try with_reducible rfl)
          change wpAny _ _ _ _ _ _ (Act.put _ (some 35) _) _
          (try simp only [Act.put, List.setIfInBounds_toArray, List.set_cons_zero, List.set_cons_succ])
          refine wpAny_ready (rs := [11]) (by kernel_rfl) (by simp) ?_
          refine AllReady.cons rfl (fun K hK => ?_) ?_
          · go_simp
            (try (refine hK _ _ ?_; clear hK K))
            (try simp only [Act.put, List.setIfInBounds_toArray, List.set_cons_zero, List.set_cons_succ])
            refine wpAny_take (i := 12) (v := ?_) rfl (by kernel_rfl) (by kernel_rfl) (by kernel_rfl) (fun _ _ _ h => h) (Or.inl ⟨by kernel_rfl, ?_⟩) ?_
            rotate_left
            · (intro w; go_simp; try with_reducible rfl)
            change wpAny _ _ _ _ _ _ (Act.put _ (some 37) _) _
            (try simp only [Act.put, List.setIfInBounds_toArray, List.set_cons_zero, List.set_cons_succ])
            refine wpAny_ready (rs := [13]) (by kernel_rfl) (by simp) ?_
            refine AllReady.cons rfl (fun K hK => ?_) ?_
            · go_simp
              (try (refine hK _ _ ?_; clear hK K))
              (try simp only [Act.put, List.setIfInBounds_toArray, List.set_cons_zero, List.set_cons_succ])
              refine wpAny_done (by kernel_rfl) ?_ _
              (try simp only [Act.put, List.setIfInBounds_toArray, List.set_cons_zero, List.set_cons_succ])
              clear hs1 hs2 hc0 hc1 hcv hcat
              have r1 := hO.out.stored (m * 2 + 1) (.string (bstr t ++ bstr [c]))
              have r2 : Chg [g] w (w.setCell ⟨g, m * 2 + 1, none⟩ (.string (bstr t ++ bstr [c]))) := (Chg.refl [g] w).setCell (.inl (by simp)) _
              have r3 := ((Chg.refl [] (w.setCell ⟨g, m * 2 + 1, none⟩ (.string (bstr t ++ bstr [c])))).alloc (.cells #[.int .u8 c.toNat] 5)).drew
              have r4 := own_chg r1.1 r3 (by simp)
              have r5 := r2.trans (r3.mono (by simp))
              rw [set_last hn] at r4
              replace r4 := Lib.hid r4
              replace r5 := Lib.hid r5
              clear r1 r2 r3
              go_wp2_with fail
              go_ret
              exact ⟨_, _, _, rfl, by simp [hn], r4.out, r5.out, .inl rfl⟩
            exact AllReady.nil
          exact AllReady.nil
        exact AllReady.nil
      exact AllReady.nil
    refine AllReady.cons rfl (fun K hK => ?_) ?_
    · go_simp
      (try (refine hK _ _ ?_; clear hK K))
      (try simp only [Act.put, List.setIfInBounds_toArray, List.set_cons_zero, List.set_cons_succ])
      refine wpAny_ready (rs := [4]) (by kernel_rfl) (by simp) ?_
      refine AllReady.cons rfl (fun K hK => ?_) ?_
      · go_simp
        (try (refine hK _ _ ?_; clear hK K))
        (try simp only [Act.put, List.setIfInBounds_toArray, List.set_cons_zero, List.set_cons_succ])
        refine wpAny_take (i := 5) (v := ?_) rfl (by kernel_rfl) (by kernel_rfl) (by kernel_rfl) (fun _ _ _ h => h) (Or.inl ⟨by kernel_rfl, ?_⟩) ?_
        rotate_left
        · (intro w; go_simp; try with_reducible rfl)
        change wpAny _ _ _ _ _ _ (Act.put _ (some 30) _) _
        (try simp only [Act.put, List.setIfInBounds_toArray, List.set_cons_zero, List.set_cons_succ])
        refine wpAny_ready (rs := [6]) (by kernel_rfl) (by simp) ?_
        refine AllReady.cons rfl (fun K hK => ?_) ?_
        · go_simp
          (try (refine hK _ _ ?_; clear hK K))
          (try simp only [Act.put, List.setIfInBounds_toArray, List.set_cons_zero, List.set_cons_succ])
          refine wpAny_take (i := 10) (v := ?_) rfl (by kernel_rfl) (by kernel_rfl) (by kernel_rfl) (fun _ _ _ h => h) (Or.inl ⟨by kernel_rfl, ?_⟩) ?_
          rotate_left
          · (intro w; go_simp; try with_reducible rfl)
          change wpAny _ _ _ _ _ _ (Act.put _ (some 35) _) _
          (try simp only [Act.put, List.setIfInBounds_toArray, List.set_cons_zero, List.set_cons_succ])
          refine wpAny_ready (rs := [11]) (by kernel_rfl) (by simp) ?_
          refine AllReady.cons rfl (fun K hK => ?_) ?_
          · go_simp
            (try (refine hK _ _ ?_; clear hK K))
            (try simp only [Act.put, List.setIfInBounds_toArray, List.set_cons_zero, List.set_cons_succ])
            refine wpAny_take (i := 12) (v := ?_) rfl (by kernel_rfl) (by kernel_rfl) (by kernel_rfl) (fun _ _ _ h => h) (Or.inl ⟨by kernel_rfl, ?_⟩) ?_
            rotate_left
            · (intro w; go_simp; try with_reducible rfl)
            change wpAny _ _ _ _ _ _ (Act.put _ (some 37) _) _
            (try simp only [Act.put, List.setIfInBounds_toArray, List.set_cons_zero, List.set_cons_succ])
            refine wpAny_ready (rs := [13]) (by kernel_rfl) (by simp) ?_
            refine AllReady.cons rfl (fun K hK => ?_) ?_
            · go_simp
              (try (refine hK _ _ ?_; clear hK K))
              (try simp only [Act.put, List.setIfInBounds_toArray, List.set_cons_zero, List.set_cons_succ])
              refine wpAny_done (by kernel_rfl) ?_ _
              (try simp only [Act.put, List.setIfInBounds_toArray, List.set_cons_zero, List.set_cons_succ])
              clear hs1 hs2 hc0 hc1 hcv hcat
              have r1 := hO.out.stored (m * 2 + 1) (.string (bstr t ++ bstr [c]))
              have r2 : Chg [g] w (w.setCell ⟨g, m * 2 + 1, none⟩ (.string (bstr t ++ bstr [c]))) := (Chg.refl [g] w).setCell (.inl (by simp)) _
              have r3 := ((Chg.refl [] (w.setCell ⟨g, m * 2 + 1, none⟩ (.string (bstr t ++ bstr [c])))).alloc (.cells #[.int .u8 c.toNat] 5)).drew
              have r4 := own_chg r1.1 r3 (by simp)
              have r5 := r2.trans (r3.mono (by simp))
              rw [set_last hn] at r4
              replace r4 := Lib.hid r4
              replace r5 := Lib.hid r5
              clear r1 r2 r3
              go_wp2_with fail
              go_ret
              exact ⟨_, _, _, rfl, by simp [hn], r4.out, r5.out, .inl rfl⟩
            exact AllReady.nil
          exact AllReady.nil
        exact AllReady.nil
      exact AllReady.nil
    exact AllReady.nil
  exact AllReady.nil
end Rt
end Go.Proofs.Ytakcolililbkjaa
namespace Go.Proofs.Ytakcolililbkjaa
open Go.RowKit Tcl PPlanParses YtakcolililbkjaaW.PrintWords
namespace Rt
theorem wrap_i {i : Int} (h0 : -9223372036854775808 ≤ i) (h : i ≤ 9223372036854775807) : wrap64 i = i := by
  unfold wrap64; omega
theorem bt_bstr {s : List UInt8} {i : Nat} {c : UInt8} (h : s[i]? = some c) : bt (bstr s) (i : Int) = c.toNat := by
  have hl := lt_of_some h
  have hb := byte_of (s := s) (i := i) (by rw [bstr_size]; exact hl)
  rw [h] at hb
  unfold bt
  have : (i : Int).toNat < (bstr s).size := by rw [bstr_size]; simpa using hl
  rw [dif_pos this]
  simp only [Int.toNat_natCast]
  cases hb; rfl
/-- Which byte a backslash ahead of one tells, if that is no octal one. -/
def plainEsc (c : UInt8) : UInt8 := if c = 114 then 13 else if c = 110 then 10 else if c = 116 then 9 else c
theorem esc_j2 (s : List UInt8) (i n x : Nat) (c : UInt8) (hs : s.length ≤ 16777300) (hn : n ≤ 3) (hc : s[i + 1]? = some c) :
    Tcl.Ev (fun k => cuecardref11_Escape.j2 k (bstr s) i n x) (if 0 < n then (((x % 256 : Nat) : Int), ((i + 1 + n : Nat) : Int), 0) else ((plainEsc c).toNat, ((i + 2 : Nat) : Int), 0)) := by
  have hl := lt_of_some hc
  refine Tcl.Ev.pure fun k => ?_
  simp only [cuecardref11_Escape.j2]
  have w1 : wrap64 ((i : Int) + 1) = ((i + 1 : Nat) : Int) := by rw [wrap_i (by omega) (by omega)]; rfl
  have w2 : wrap64 ((i : Int) + 2) = ((i + 2 : Nat) : Int) := by rw [wrap_i (by omega) (by omega)]; rfl
  by_cases h : 0 < n
  · rw [if_pos (by omega), if_pos h, w1, wrap_i (by omega) (by omega)]
    have e : Int.tmod (x : Int) 256 % 256 = ((x % 256 : Nat) : Int) := by
      rw [Int.tmod_eq_emod_of_nonneg (by omega)]; omega
    rw [e]; rfl
  · rw [if_neg (by omega), if_neg h, w1, w2, bt_bstr hc, if_pos (by omega), if_pos (by rw [bstr_size]; omega)]
    unfold plainEsc
    by_cases h1 : c = 110
    · subst h1; rfl
    · rw [if_neg (show ¬ ((c.toNat : Int) = 110) from fun h => h1 (UInt8.toNat_inj.1 (by show c.toNat = 110; omega)))]
      by_cases h2 : c = 116
      · subst h2; rfl
      · rw [if_neg (show ¬ ((c.toNat : Int) = 116) from fun h => h2 (UInt8.toNat_inj.1 (by show c.toNat = 116; omega)))]
        by_cases h3 : c = 114
        · subst h3; rfl
        · rw [if_neg (show ¬ ((c.toNat : Int) = 114) from fun h => h3 (UInt8.toNat_inj.1 (by show c.toNat = 114; omega))), if_neg h3, if_neg h1, if_neg h2]
theorem esc_l0 (s : List UInt8) (i : Nat) (c : UInt8) (hs : s.length ≤ 16777300) (hc : s[i + 1]? = some c) : ∀ (m n x : Nat), m + n = 3 → i + 1 + n ≤ s.length → x < 8 ^ n →
    Tcl.Ev (fun k => cuecardref11_Escape.l0 k (bstr s) i n x) (if i + 1 < (octals s (i + 1 + n) m x).2 then ((((octals s (i + 1 + n) m x).1 % 256 : Nat) : Int), (((octals s (i + 1 + n) m x).2 : Nat) : Int), 0) else ((plainEsc c).toNat, ((i + 2 : Nat) : Int), 0)) := by
  intro m
  induction m with
  | zero =>
    intro n x hmn hl hx
    have hn : n = 3 := by omega
    refine Tcl.Ev.step (h := fun k => cuecardref11_Escape.j2 k (bstr s) i n x) ?_ fun k => ?_
    · have := esc_j2 s i n x c hs (by omega) hc
      rw [if_pos (by omega)] at this
      have e : octals s (i + 1 + n) 0 x = (x, i + 1 + n) := by unfold octals; rfl
      rw [e, if_pos (show i + 1 < ((x, i + 1 + n) : Nat × Nat).2 by show i + 1 < i + 1 + n; omega)]; exact this
    · simp only [cuecardref11_Escape.l0]
      rw [if_neg (by omega)]
  | succ m ih =>
    intro n x hmn hl hx
    have hn : n < 3 := by omega
    have w1 : wrap64 ((i : Int) + 1) = ((i + 1 : Nat) : Int) := by rw [wrap_i (by omega) (by omega)]; rfl
    have w2 : wrap64 (((i + 1 : Nat) : Int) + n) = ((i + 1 + n : Nat) : Int) := by rw [wrap_i (by omega) (by omega)]; rfl
    have hx9 : x < 512 := by have : (8 : Nat) ^ n ≤ 8 ^ 3 := Nat.pow_le_pow_right (by decide) (by omega); omega
    have hj2 : Tcl.Ev (fun k => cuecardref11_Escape.j2 k (bstr s) i n x) (if i + 1 < i + 1 + n then (((x % 256 : Nat) : Int), ((i + 1 + n : Nat) : Int), 0) else ((plainEsc c).toNat, ((i + 2 : Nat) : Int), 0)) := by
      have := esc_j2 s i n x c hs (by omega) hc
      by_cases h : 0 < n
      · rw [if_pos h] at this; rw [if_pos (by omega)]; exact this
      · rw [if_neg h] at this; rw [if_neg (by omega)]; exact this
    cases hd : s[i + 1 + n]? with
    | none =>
      have hge : s.length ≤ i + 1 + n := by rcases Nat.lt_or_ge (i + 1 + n) s.length with h | h; (rw [List.getElem?_eq_getElem h] at hd; cases hd); exact h
      refine Tcl.Ev.step (h := fun k => cuecardref11_Escape.j2 k (bstr s) i n x) ?_ fun k => ?_
      · simp only [octals, hd]; exact hj2
      · simp only [cuecardref11_Escape.l0]
        rw [if_pos (by omega), w1, w2, if_neg (by rw [bstr_size]; omega)]
    | some d =>
      have hdl := lt_of_some hd
      by_cases ho : octal d = true
      · have ho' : 48 ≤ d.toNat ∧ d.toNat ≤ 55 := by
          unfold octal at ho
          simp at ho
          exact ⟨by simpa using UInt8.le_iff_toNat_le.1 ho.1, by simpa using UInt8.le_iff_toNat_le.1 ho.2⟩
        have hb : x * 8 + (d.toNat - 48) < 8 ^ (n + 1) := by
          rw [Nat.pow_succ]
          generalize 8 ^ n = q at hx ⊢
          clear w1 w2 hj2 hx9 ih hc hd
          omega
        clear hx hj2
        refine Tcl.Ev.step (h := fun k => cuecardref11_Escape.l0 k (bstr s) i ((n + 1 : Nat) : Int) ((x * 8 + (d.toNat - 48) : Nat) : Int)) ?_ fun k => ?_
        · have := ih (n + 1) (x * 8 + (d.toNat - 48)) (by omega) (by omega) hb
          simp only [octals, hd, ho, if_true]
          rw [show i + 1 + n + 1 = i + 1 + (n + 1) by omega]
          exact this
        · clear ih hb
          simp only [cuecardref11_Escape.l0]
          rw [if_pos (by omega), w1, w2, if_pos (by rw [bstr_size]; omega), if_pos (by omega), bt_bstr hd, if_pos (by omega), if_pos (by omega)]
          clear w1 w2
          have e1 : wrap64 ((n : Int) + 1) = ((n + 1 : Nat) : Int) := by rw [wrap_i (by omega) (by omega)]; rfl
          have e2 : wrap64 (8 * (x : Int)) = ((8 * x : Nat) : Int) := by rw [wrap_i (by omega) (by omega)]; omega
          have e3 : wrap64 (d.toNat : Int) = d.toNat := wrap_i (by omega) (by omega)
          have e4 : wrap64 (((8 * x : Nat) : Int) + (d.toNat : Int)) = ((8 * x + d.toNat : Nat) : Int) := by rw [wrap_i (by omega) (by omega)]; omega
          have e5 : wrap64 (((8 * x + d.toNat : Nat) : Int) - 48) = ((x * 8 + (d.toNat - 48) : Nat) : Int) := by rw [wrap_i (by omega) (by omega)]; omega
          rw [e1, e2, e3, e4, e5]
      · have ho' : ¬ (48 ≤ d.toNat ∧ d.toNat ≤ 55) := fun h => ho (by
          unfold octal
          simp
          exact ⟨UInt8.le_iff_toNat_le.2 (by simpa using h.1), UInt8.le_iff_toNat_le.2 (by simpa using h.2)⟩)
        refine Tcl.Ev.step (h := fun k => cuecardref11_Escape.j2 k (bstr s) i n x) ?_ fun k => ?_
        · have ho2 : octal d = false := by simpa using ho
          simp only [octals, hd, ho2, Bool.false_eq_true, if_false]; exact hj2
        · simp only [cuecardref11_Escape.l0]
          rw [if_pos (by omega), w1, w2, if_pos (by rw [bstr_size]; omega), if_pos (by omega), bt_bstr hd]
          by_cases h : (d.toNat : Int) ≥ 48
          · rw [if_pos h, if_neg (by omega)]
          · rw [if_neg h]
theorem octals_le (s : List UInt8) : ∀ (m i x : Nat), i ≤ (octals s i m x).2 ∧ (octals s i m x).2 ≤ i + m := by
  intro m
  induction m with
  | zero => intro i x; exact ⟨Nat.le_refl _, Nat.le_refl _⟩
  | succ m ih =>
    intro i x
    unfold octals
    cases s[i]? with
    | none => exact ⟨Nat.le_refl _, Nat.le_add_right _ _⟩
    | some c =>
      dsimp only
      by_cases h : octal c = true
      · rw [if_pos h]; have := ih (i + 1) (x * 8 + (c.toNat - 48)); omega
      · rw [if_neg h]; exact ⟨Nat.le_refl _, Nat.le_add_right _ _⟩
/-- A backslash's byte and how far it goes. -/
theorem escape_ref (w : World) (s : List UInt8) (i : Nat) (hs : s.length ≤ 16777300) (hc : s[i]? = some 92) :
    Calls Try.prog 57 #[.string (bstr s), .int .i64 i] w fun e w' => Drawn0 w w' ∧ (match esc s i with
      | some (x, j) => e = .returned (.tuple #[.int .u8 x.toNat, .int .i64 j, .int .i64 0])
      | none => e = .returned (.tuple #[.int .u8 0, .int .i64 0, .int .i64 5])) := by
  have hl := lt_of_some hc
  have w1 : wrap64 ((i : Int) + 1) = ((i + 1 : Nat) : Int) := by rw [wrap_i (by omega) (by omega)]; rfl
  have e0 : ∀ k, cuecardref11_Escape.f (k + 1) (bstr s) (i : Int) = if ((i + 1 : Nat) : Int) = ((bstr s).size : Int) then some (0, 0, 5) else cuecardref11_Escape.l0 k (bstr s) i 0 0 := by
    intro k
    unfold cuecardref11_Escape.f
    rw [if_neg (by omega), if_neg (by rw [bstr_size]; omega), if_pos (by omega), if_pos (by rw [bstr_size]; omega), bt_bstr hc]
    have : ((((92 : UInt8).toNat : Nat) : Int) != 92) = false := by decide
    rw [this]
    simp only [cuecardref11_Escape.j0]
    rw [if_neg (by decide), w1]
  unfold esc
  cases hn : s[i + 1]? with
  | none =>
    have hge : s.length ≤ i + 1 := by rcases Nat.lt_or_ge (i + 1) s.length with h | h; (rw [List.getElem?_eq_getElem h] at hn; cases hn); exact h
    have e1 := e0 0
    rw [if_pos (by rw [bstr_size]; omega)] at e1
    exact (cuecardref11_Escape.calls 1 _ _ _ _ _ w e1).mono fun e w' h => ⟨h.2, h.1⟩
  | some c =>
    have hcl := lt_of_some hn
    obtain ⟨K, hK⟩ := esc_l0 s i c hs hn 3 0 0 rfl (by omega) (by decide)
    have hk := hK K (Nat.le_refl K)
    have e1 := e0 K
    rw [if_neg (by rw [bstr_size]; omega)] at e1
    have e2 := e1.trans hk
    have hle := octals_le s 3 (i + 1) 0
    rw [show i + 1 + 0 = i + 1 by omega] at e2
    dsimp only
    by_cases ho : octal c = true
    · rw [if_pos ho]
      have hlt : i + 1 < (octals s (i + 1) 3 0).2 := by
        rw [show octals s (i + 1) 3 0 = octals s (i + 1 + 1) 2 (0 * 8 + (c.toNat - 48)) by
          rw [show octals s (i + 1) 3 0 = (match s[i + 1]? with | some c => if octal c then octals s (i + 1 + 1) 2 (0 * 8 + (c.toNat - 48)) else (0, i + 1) | none => (0, i + 1)) from rfl, hn]
          dsimp only
          rw [if_pos ho]]
        have := (octals_le s 2 (i + 1 + 1) (0 * 8 + (c.toNat - 48))).1
        omega
      rw [if_pos hlt] at e2
      have hx : ((((octals s (i + 1) 3 0).1 % 256 : Nat) : Int)) = ((UInt8.ofNat (octals s (i + 1) 3 0).1).toNat : Int) := by
        rw [UInt8.toNat_ofNat']
      rw [hx] at e2
      exact (cuecardref11_Escape.calls _ _ _ _ _ _ w e2).mono fun e w' h => ⟨h.2, h.1⟩
    · rw [if_neg ho]
      have hle2 : ¬ (i + 1 < (octals s (i + 1) 3 0).2) := by
        rw [show octals s (i + 1) 3 0 = (0, i + 1) by
          rw [show octals s (i + 1) 3 0 = (match s[i + 1]? with | some c => if octal c then octals s (i + 1 + 1) 2 (0 * 8 + (c.toNat - 48)) else (0, i + 1) | none => (0, i + 1)) from rfl, hn]
          dsimp only
          rw [if_neg ho]]
        exact Nat.lt_irrefl _
      rw [if_neg hle2] at e2
      exact (cuecardref11_Escape.calls _ _ _ _ _ _ w e2).mono fun e w' h => ⟨h.2, h.1⟩
end Rt
end Go.Proofs.Ytakcolililbkjaa
namespace Go.Proofs.Ytakcolililbkjaa
open Go.RowKit Tcl PPlanParses YtakcolililbkjaaW.PrintWords
namespace Rt
theorem drawn_over {w w' : World} {k : Nat} (h : Drawn0 (w.drewN k) w') : ∃ n, w' = w.drewN n := by
  obtain ⟨m, rfl⟩ := h
  exact ⟨k + m, World.drewN_drewN ..⟩
theorem name_f : ∀ x : Fin 256, cuecardref11_Name.f (x.val : Int) = some (nameB (UInt8.ofNat x.val)) := by decide +kernel
theorem name_ref (c : UInt8) (b : Bool) (hb : nameB c = b) (w : World) : Calls Try.prog 59 #[.int .u8 c.toNat] w fun e w' => e = .returned (.bool b) ∧ Drawn0 w w' := by
  refine cuecardref11_Name.calls _ _ w ?_
  have h := name_f ⟨c.toNat, c.toNat_lt⟩
  simp only [UInt8.ofNat_toNat] at h
  rw [h, hb]
theorem nl_none {s : List UInt8} {j : Nat} (h : s.length ≤ j) : nameLen (s.drop j) = 0 := by rw [List.drop_eq_nil_of_le h]; rfl
theorem nl_some {s : List UInt8} {j : Nat} {c : UInt8} (h : s[j]? = some c) : nameLen (s.drop j) = if nameB c then nameLen (s.drop (j + 1)) + 1 else 0 := by
  obtain ⟨hl, he⟩ := List.getElem?_eq_some_iff.1 h
  rw [List.drop_eq_getElem_cons hl, he, nameLen]
theorem flush_nil (l : List Part) : flush l [] = l := rfl
theorem flush_len {l : List Part} {t : List UInt8} : (flush l t).length ≤ l.length + 1 := by
  unfold flush; split <;> simp
theorem add_ref (w : World) (base : Nat) (A : Option Addr) (n c0 : Nat) (l : List Part) (t : List UInt8) (c : UInt8) (hol : Open l) (hn : (flush l t).length = n) (hn9 : n ≤ 100000) (ht : t.length ≤ 100000)
    (hO : w.ownsRow base 42 2 (.slice A n c0) n (partsCells (flush l t))) (hb : base ≤ w.heap.size) :
    Calls Try.prog 58 #[.slice A n c0, .int .u8 c.toNat] w fun e w' => ∃ A' n' c', e = .returned (.slice A' n' c') ∧ n' = (flush l (t ++ [c])).length ∧ w'.ownsRow base 42 2 (.slice A' n' c') n' (partsCells (flush l (t ++ [c]))) ∧ Chg (Value.slice A n c0).ownBlock.toList w w' ∧
      ((Value.slice A' n' c').ownBlock = (Value.slice A n c0).ownBlock ∨ ∀ q, (Value.slice A' n' c').ownBlock = some q → w.heap.size ≤ q) := by
  rw [← add_flush hol]
  by_cases h : t = []
  · subst h
    exact add_new w base A n c0 l c hn hn9 hol hO hb
  · have e : flush l t = l ++ [⟨false, t⟩] := by unfold flush; rw [if_neg h]
    rw [e] at hn hO ⊢
    have hn2 : n = l.length + 1 := by rw [← hn]; simp
    subst hn2
    exact add_last w base A l.length c0 l t c rfl (by omega) ht hO hb
/-- What `one` tells: a step of the parts. -/
def OneEnd (w : World) (g base : Nat) (s : List UInt8) (stop : UInt8 → Bool) (fr : Option Nat) (i : Nat) (v : Value) (l : List Part) (t : List UInt8) (a0 : Int) (v0 : Value) (e : Ending) (w' : World) : Prop :=
  ∃ A n c', e = .returned (.slice A n c') ∧ Chg (g :: v.ownBlock.toList) w w' ∧ ((Value.slice A n c').ownBlock = v.ownBlock ∨ ∀ q, (Value.slice A n c').ownBlock = some q → w.heap.size ≤ q) ∧
    ∃ l' t', Open l' ∧ n = (flush l' t').length ∧ w'.ownsRow base 42 2 (.slice A n c') n (partsCells (flush l' t')) ∧
    ((∃ j, i < j ∧ j ≤ s.length ∧ l'.length ≤ j ∧ t'.length ≤ j ∧ partsGo stop s fr i l t = partsGo stop s fr j l' t' ∧ RP w' g (bstr s) j 0 a0 v0) ∨
     (∃ p c : Nat, partsGo stop s fr i l t = .error (p, c) ∧ c ≠ 0 ∧ RP w' g (bstr s) i c p v0))
set_option maxRecDepth 100000 in
set_option maxHeartbeats 8000000 in
theorem one_ref (w : World) (g base : Nat) (s : List UInt8) (stop : UInt8 → Bool) (fr : Option Nat) (o i : Nat) (c : UInt8) (A : Option Addr) (n c0 : Nat) (l : List Part) (t : List UInt8) (a0 : Int) (v0 : Value)
    (hs : s.length ≤ 50000) (hc : s[i]? = some c) (hst : stop c = false) (hfr : fr.getD i = o) (hol : Open l) (hn : (flush l t).length = n) (hl : l.length ≤ i) (ht : t.length ≤ i) (ho : o ≤ s.length)
    (hO : w.ownsRow base 42 2 (.slice A n c0) n (partsCells (flush l t))) (hgb : g < base) (hb : base ≤ w.heap.size) (h : RP w g (bstr s) i 0 a0 v0) :
    Calls Try.prog 52 #[.pointer (some ⟨g, 0, none⟩), .slice A n c0, .int .i64 o] w (OneEnd w g base s stop fr i (.slice A n c0) l t a0 v0) := by
  have hil := lt_of_some hc
  have hsz : (bstr s).size = s.length := rfl
  have hp := parts_some (stop := stop) (f := fr) (l := l) (t := t) hc
  rw [hst, if_neg (by decide), hfr] at hp
  have hn9 : n ≤ 100000 := by have := flush_len (l := l) (t := t); omega
  obtain ⟨B, hB⟩ : ∃ B, bstr s = B := ⟨_, rfl⟩
  have hby : ∀ i (h : i < B.size), s[i]? = some (B[i]'h) := by rw [← hB]; exact fun i h => byte_of h
  have hbi : ∃ h : i < B.size, B[i]'h = c := by
    have h1 : i < B.size := by rw [← hB]; omega
    have := hby i h1
    rw [hc] at this
    exact ⟨h1, by simpa using this.symm⟩
  obtain ⟨hiB, hbi⟩ := hbi
  have hex : ∀ a b, B.extract a b = bstr (sub s a b) := by rw [← hB]; exact extract_bstr s
  have hescN : c = 92 → esc s i = none → ∀ w, Calls Try.prog 57 #[.string B, .int .i64 i] w fun e w' => e = .returned (.tuple #[.int .u8 0, .int .i64 0, .int .i64 5]) ∧ Drawn0 w w' := fun h1 h2 w => by
    have := escape_ref w s i (by omega) (by rw [hc, h1])
    rw [h2, hB] at this
    exact this.mono fun e w' h => ⟨h.2, h.1⟩
  have hescS : c = 92 → ∀ x j, esc s i = some (x, j) → ∀ w, Calls Try.prog 57 #[.string B, .int .i64 i] w fun e w' => e = .returned (.tuple #[.int .u8 x.toNat, .int .i64 j, .int .i64 0]) ∧ Drawn0 w w' := fun h1 x j h2 w => by
    have := escape_ref w s i (by omega) (by rw [hc, h1])
    rw [h2, hB] at this
    exact this.mono fun e w' h => ⟨h.2, h.1⟩
  unfold OneEnd
  rw [hB] at h hsz ⊢
  have hgo : ∀ w' : World, Chg [] w w' → RP w' g B i 0 a0 v0 ∧ w'.ownsRow base 42 2 (.slice A n c0) n (partsCells (flush l t)) := fun w' hC => ⟨h.chg hC (by simp), own_chg hO hC (by simp)⟩
  have hgA : ∀ q, (Value.slice A n c0).ownBlock = some q → q ≠ g := fun q hq hqg => by have := (hO.lt q hq).1; omega
  obtain ⟨k0, k1, -, -, -⟩ := h.c0
  replace hp := Lib.hid hp
  replace hby := Lib.hid hby
  replace hex := Lib.hid hex
  replace hgo := Lib.hid hgo
  replace hgA := Lib.hid hgA
  replace hfr := Lib.hid hfr
  replace hol := Lib.hid hol
  replace hn := Lib.hid hn
  replace hescN := Lib.hid hescN
  replace hescS := Lib.hid hescS
  replace hst := Lib.hid hst
  replace hc := Lib.hid hc
  clear h hO hB
  have ec : ((B[i]'hiB).toNat : Int) = c.toNat := by rw [hbi]
  go_enter Try.func52, Try.ntmps52
  go_wp2_with fail
  go_quiet (fail)
  clear ec k0 k1
  have hC1 := (Chg.refl [] w).drewN nq
  obtain ⟨hP1, hO1⟩ := hgo.out _ hC1
  have hs1 : w.heap.size ≤ (w.drewN nq).heap.size := hC1.size
  clear hgo
  generalize w.drewN nq = w1 at hC1 hP1 hO1 hs1 ⊢
  obtain ⟨k0, k1, -, -, -⟩ := hP1.c0
  have f1 := hP1.f0 1
  have hb1 : base ≤ w1.heap.size := by omega
  replace hC1 := Lib.hid hC1
  replace hP1 := Lib.hid hP1
  replace hO1 := Lib.hid hO1
  replace hs1 := Lib.hid hs1
  replace hb1 := Lib.hid hb1
  by_cases h92 : c = 92
  · subst h92
    replace hp := hp.out.trans ((if_neg (by decide)).trans (if_pos rfl))
    cases he : esc s i with
    | none =>
      have hq := Lib.hid (hescN.out rfl he)
      rw [he] at hp
      replace hp := Lib.hid hp
      clear he hescN hescS
      go_wp2_with fail
      go_quiet ((go_at_call 57; exact (hq.out _).mono (fun e w' h => ⟨h.1, drawn_over h.2⟩)))
      replace hP1 := hP1.out.chg ((Chg.refl [] w1).drewN nq) (by simp)
      replace hO1 := Lib.hid (own_chg hO1.out ((Chg.refl [] w1).drewN nq) (by simp))
      replace hC1 := hC1.out.drewN nq
      clear k0 k1 f1
      generalize w1.drewN nq = w2 at hC1 hP1 hO1 ⊢
      go_wp2_with fail
      refine (fail_ref w2 g B i a0 o 5 v0 hP1).mono ?_
      rintro e w3 ⟨rfl, hP3, hC3⟩
      have hO3 := Lib.hid (own_chg hO1.out hC3 (fun q hq hm => hgA.out q hq (by simpa using hm)))
      have hC4 := Lib.hid ((hC1.mono (S1 := [g]) (by simp)).trans hC3)
      replace hP3 := Lib.hid hP3
      clear hP1 hO1 hC1 hC3
      go_wp2_with fail
      go_ret
      exact ⟨A, n, c0, rfl, hC4.out.mono (by simp), .inl rfl, l, t, hol.out, hn.out.symm, hO3.out, .inr ⟨o, 5, hp.out, by decide, hP3.out⟩⟩
    | some xj =>
      obtain ⟨x, j⟩ := xj
      have hj := esc_bound he
      have hq := Lib.hid (hescS.out rfl x j he)
      rw [he] at hp
      replace hp := Lib.hid (hp.trans (if_pos (by omega)))
      clear he hescN hescS
      go_wp2_with fail
      go_quiet ((go_at_call 57; exact (hq.out _).mono (fun e w' h => ⟨h.1, drawn_over h.2⟩)))
      replace hP1 := hP1.out.chg ((Chg.refl [] w1).drewN nq) (by simp)
      replace hO1 := own_chg hO1.out ((Chg.refl [] w1).drewN nq) (by simp)
      replace hC1 := hC1.out.drewN nq
      have hs2 : w1.heap.size ≤ (w1.drewN nq).heap.size := Nat.le_refl _
      clear k0 k1 f1
      generalize w1.drewN nq = w2 at hC1 hP1 hO1 hs2 ⊢
      have hP2 := hP1.put j
      have hSt : Chg [g] w2 (w2.setCell ⟨g, 1, none⟩ (.int .i64 j)) := (Chg.refl [g] w2).setCell (.inl (by simp)) _
      have hO2 := own_chg hO1 hSt (fun q hq hm => hgA.out q hq (by simpa using hm))
      have hC2 := (hC1.mono (S1 := [g]) (by simp)).trans hSt
      have hb2 : base ≤ (w2.setCell ⟨g, 1, none⟩ (.int .i64 j)).heap.size := Nat.le_trans (Nat.le_trans hb1.out hs2) hSt.size
      have hs3 := Nat.le_trans (Nat.le_trans hs1.out hs2) hSt.size
      obtain ⟨k0, k1, -, -, -⟩ := hP1.c0
      have f1 := hP1.f0 1
      replace hP2 := Lib.hid hP2
      replace hO2 := Lib.hid hO2
      replace hC2 := Lib.hid hC2
      replace hb2 := Lib.hid hb2
      replace hs3 := Lib.hid hs3
      clear hP1 hO1 hC1 hs2 hSt
      go_wp2_with fail
      generalize w2.setCell ⟨g, 1, none⟩ (.int .i64 j) = w3 at hP2 hO2 hC2 hb2 hs3 ⊢
      refine (add_ref w3 base A n c0 l t x hol.out hn.out hn9 (by omega) hO2.out hb2.out).mono ?_
      rintro e w4 ⟨A', n', c', rfl, hn', hO4, hC4, hw4⟩
      have hP4 := Lib.hid (hP2.out.chg hC4 (fun hm => hgA.out g (by simpa using hm) rfl))
      have hC5 := Lib.hid ((hC2.out.mono (S1 := g :: (Value.slice A n c0).ownBlock.toList) (by simp)).trans (hC4.mono (by simp +contextual)))
      replace hO4 := Lib.hid hO4
      replace hn' := Lib.hid hn'
      replace hw4 := Lib.hid hw4
      clear hC4 hP2 hO2 hC2 k0 k1 f1
      go_wp2_with fail
      go_ret
      exact ⟨A', n', c', rfl, hC5.out, hw4.out.imp id (fun h q hq => Nat.le_trans hs3.out (h q hq)), l, t ++ [x], hol.out, hn'.out, hO4.out, .inl ⟨j, by omega, by omega, by omega, by simp; omega, hp.out, hP4.out⟩⟩
  have e92 := u8n (n := 92) h92
  clear hescN hescS
  by_cases h91 : c = 91
  · subst h91
    replace hp := Lib.hid (hp.out.trans (if_pos rfl))
    go_wp2_with fail
    refine (fail_ref w1 g B i a0 i 4 v0 hP1.out).mono ?_
    rintro e w3 ⟨rfl, hP3, hC3⟩
    have hO3 := Lib.hid (own_chg hO1.out hC3 (fun q hq hm => hgA.out q hq (by simpa using hm)))
    have hC4 := Lib.hid ((hC1.out.mono (S1 := [g]) (by simp)).trans hC3)
    replace hP3 := Lib.hid hP3
    clear hP1 hO1 hC1 hC3
    go_wp2_with fail
    go_ret
    exact ⟨A, n, c0, rfl, hC4.out.mono (by simp), .inl rfl, l, t, hol.out, hn.out.symm, hO3.out, .inr ⟨i, 4, hp.out, by decide, hP3.out⟩⟩
  have e91 := u8n (n := 91) h91
  replace hp := hp.out.trans ((if_neg h91).trans (if_neg h92))
  have hput : ∀ (wr : World) (j : Int), Chg [] w1 wr → ∃ wp, wr.setCell ⟨g, 1, none⟩ (.int .i64 j) = wp ∧ Hid (RP wp g B j 0 a0 v0) ∧ Hid (wp.ownsRow base 42 2 (.slice A n c0) n (partsCells (flush l t))) ∧ Hid (Chg [g] w wp) ∧ Hid (base ≤ wp.heap.size) ∧ Hid (w.heap.size ≤ wp.heap.size) := fun wr j hC => by
    have hSt : Chg [g] wr (wr.setCell ⟨g, 1, none⟩ (.int .i64 j)) := (Chg.refl [g] wr).setCell (.inl (by simp)) _
    have hA := hC1.out.trans hC
    refine ⟨_, rfl, Lib.hid ((hP1.out.chg hC (by simp)).put j), Lib.hid (own_chg (own_chg hO1.out hC (by simp)) hSt (fun q hq hm => hgA.out q hq (by simpa using hm))), Lib.hid ((hA.mono (S1 := [g]) (by simp)).trans hSt), Lib.hid ?_, Lib.hid ?_⟩
    · exact Nat.le_trans hb1.out (Nat.le_trans hC.size hSt.size)
    · exact Nat.le_trans hs1.out (Nat.le_trans hC.size hSt.size)
  replace hput := Lib.hid hput
  have hplus : Hid (¬ (c = 36 ∧ nameLen (s.drop (i + 1)) ≠ 0) → partsGo stop s fr i l t = partsGo stop s fr (i + 1) l (t ++ [c]) ∨ (c = 36 ∧ 64 < nameLen (s.drop (i + 1)))) := Lib.hid (fun hx => by
    rw [hp]
    by_cases h36 : c = 36
    · rw [if_pos h36]
      have h0 : nameLen (s.drop (i + 1)) = 0 := Classical.byContradiction fun h => hx ⟨h36, h⟩
      rw [if_neg (by omega), if_pos h0]; exact .inl rfl
    · rw [if_neg h36]; exact .inl rfl)
  by_cases h36 : c = 36
  · subst h36
    replace hp := Lib.hid (hp.trans (if_pos rfl))
    clear hplus
    obtain ⟨N, hN⟩ : ∃ N, nameLen (s.drop (i + 1)) = N := ⟨_, rfl⟩
    have hNl : i + 1 + N ≤ s.length := by
      have := nameLen_le (s.drop (i + 1))
      rw [List.length_drop] at this
      omega
    go_upto_block 0 with (fail)
    go_cut [11] (fun v11 wc => v11 = .int .i64 ((i + 1 + N : Nat) : Int) ∧ Chg [] w1 wc)
    case first =>
      clear hput hp
      replace hN := Lib.hid hN
      have hP1' := Lib.hid hP1.out
      clear hC1 hO1 hP1 hs1 hb1 k0 k1 f1
      go_wp2
      go_loopg [11] (s.length - i) (fun gk v11 w' => ∃ m : Nat, v11 = .int .i64 ((i + 1 + m : Nat) : Int) ∧ m ≤ N ∧ gk = s.length - (i + m) ∧ Hid (N = m + nameLen (s.drop (i + 1 + m))) ∧ Hid (RP w' g B i 0 a0 v0) ∧ Hid (Chg [] w1 w'))
      case atStart => exact ⟨0, rfl, by omega, by omega, Lib.hid (by show N = 0 + nameLen (s.drop (i + 1)); rw [hN.out]; omega), hP1', Lib.hid (Chg.refl _ _)⟩
      case round =>
        obtain ⟨m, rfl, hmN, rfl, hm, hPr, hCr⟩ := hrel
        clear hP1'
        obtain ⟨k0, k1, -, -, -⟩ := hPr.out.c0
        by_cases hlt : i + 1 + m < s.length
        · have hlB : i + 1 + m < B.size := by omega
          have hlB2 : decide (((i + 1 + m : Nat) : Int) < (B.size : Int)) = true := by simp; omega
          obtain ⟨d, hd⟩ : ∃ d, B[i + 1 + m]'hlB = d := ⟨_, rfl⟩
          have hsd : s[i + 1 + m]? = some d := by rw [hby.out _ hlB, hd]
          have hnl := nl_some hsd
          by_cases hnb : nameB d = true
          · rw [hnb, if_pos rfl] at hnl
            have hm2 : Hid (N = m + 1 + nameLen (s.drop (i + 1 + (m + 1)))) := Lib.hid (by have := hm.out; rw [hnl] at this; rw [show i + 1 + (m + 1) = i + 1 + m + 1 by omega]; omega)
            have hq := Lib.hid (name_ref d true hnb)
            clear hnl hm hnb hsd
            have hmN2 : m + 1 ≤ N := by have := hm2.out; omega
            go_wp2_with fail
            refine (hq.out _).mono ?_
            rintro e w3 ⟨rfl, hd3⟩
            obtain ⟨nd, rfl⟩ := hd3.out
            replace hPr := Lib.hid (hPr.out.chg ((Chg.refl [] wr).drewN nd) (by simp))
            replace hCr := Lib.hid (hCr.out.drewN nd)
            clear hq
            go_wp2_with fail
            go_roundg (s.length - (i + (m + 1)))
            case measure => omega
            case rel => exact ⟨m + 1, by go_num, hmN2, rfl, hm2, hPr, hCr⟩
          · replace hnb : nameB d = false := by simpa using hnb
            rw [hnb, if_neg (by decide)] at hnl
            have hm2 : m = N := by have := hm.out; omega
            subst hm2
            have hq := Lib.hid (name_ref d false hnb)
            clear hnl hm hnb hsd
            go_wp2_with fail
            refine (hq.out _).mono ?_
            rintro e w3 ⟨rfl, hd3⟩
            obtain ⟨nd, rfl⟩ := hd3.out
            replace hCr := Lib.hid (hCr.out.drewN nd)
            clear hq
            go_wp2_with fail
            go_meet
            exact ⟨rfl, hCr.out⟩
        · have hlB2 : decide (((i + 1 + m : Nat) : Int) < (B.size : Int)) = false := by simp; omega
          have hm2 : m = N := by have := hm.out; rw [nl_none (by omega)] at this; omega
          subst hm2
          clear hm
          go_wp2_with fail
          go_meet
          exact ⟨rfl, hCr.out⟩
    case rest =>
      obtain ⟨rfl, hCr⟩ := hcut
      obtain ⟨kk, hkk⟩ : ∃ kk, i + 1 + N = kk := ⟨_, rfl⟩
      rw [hkk]
      replace hNl : kk ≤ s.length := by omega
      replace hkk := Lib.hid hkk
      have hP2 := hP1.out.chg hCr (by simp)
      have hO2 := own_chg hO1.out hCr (by simp)
      have hC2 := hC1.out.trans hCr
      have hs2 := Nat.le_trans hs1.out hCr.size
      have hb2 := Nat.le_trans hb1.out hCr.size
      clear k0 k1 f1
      obtain ⟨k0, k1, -, -, -⟩ := hP2.c0
      have f1 := hP2.f0 1
      replace hP2 := Lib.hid hP2
      replace hO2 := Lib.hid hO2
      replace hC2 := Lib.hid hC2
      replace hs2 := Lib.hid hs2
      replace hb2 := Lib.hid hb2
      by_cases hN6 : 64 < N
      · replace hp := Lib.hid (hp.out.trans (if_pos (by rw [hN]; exact hN6)))
        have d1 : decide ((kk : Int) - (i : Int) > 65) = true := by have := hkk.out; simp; omega
        clear hput hP1 hO1 hC1 hs1 hb1 hCr
        replace hN := Lib.hid hN
        go_wp2_with fail
        refine (fail_ref wc g B i a0 i 6 v0 hP2.out).mono ?_
        rintro e w3 ⟨rfl, hP3, hC3⟩
        have hO3 := Lib.hid (own_chg hO2.out hC3 (fun q hq hm => hgA.out q hq (by simpa using hm)))
        have hC4 := Lib.hid ((hC2.out.mono (S1 := [g]) (by simp)).trans hC3)
        replace hP3 := Lib.hid hP3
        clear hP2 hO2 hC2 hC3
        go_wp2_with fail
        go_ret
        exact ⟨A, n, c0, rfl, hC4.out.mono (by simp), .inl rfl, l, t, hol.out, hn.out.symm, hO3.out, .inr ⟨i, 6, hp.out, by decide, hP3.out⟩⟩
      · replace hp := hp.out.trans (if_neg (by rw [hN]; exact hN6))
        have d1 : decide ((kk : Int) - (i : Int) > 65) = false := by have := hkk.out; simp; omega
        by_cases hN0 : N = 0
        · subst hN0
          replace hp := Lib.hid (hp.trans (if_pos hN))
          replace hN := Lib.hid hN
          have d2 : decide ((kk : Int) > (i : Int) + 1) = false := by have := hkk.out; simp; omega
          obtain ⟨wp, hwp, hP2, hO2, hC2, hb2, hs2⟩ := hput.out wc ((i : Int) + 1) hCr
          clear hput hP1 hO1 hC1 hs1 hb1 hCr
          go_wp2_with fail
          refine (add_ref wp base A n c0 l t 36 hol.out hn.out hn9 (by omega) hO2.out hb2.out).mono ?_
          rintro e w4 ⟨A', n', c', rfl, hn', hO4, hC4, hw4⟩
          have hP4 := Lib.hid (hP2.out.chg hC4 (fun hm => hgA.out g (by simpa using hm) rfl))
          have hC5 := Lib.hid ((hC2.out.mono (S1 := g :: (Value.slice A n c0).ownBlock.toList) (by simp)).trans (hC4.mono (by simp +contextual)))
          replace hO4 := Lib.hid hO4
          replace hn' := Lib.hid hn'
          replace hw4 := Lib.hid hw4
          clear hC4 hP2 hO2 hC2 k0 k1 f1
          go_wp2_with fail
          go_ret
          exact ⟨A', n', c', rfl, hC5.out, hw4.out.imp id (fun h q hq => Nat.le_trans hs2.out (h q hq)), l, t ++ [36], hol.out, hn'.out, hO4.out, .inl ⟨i + 1, by omega, by omega, by omega, by simp; omega, hp.out, hP4.out⟩⟩
        · replace hp := Lib.hid (hp.trans (if_neg (by rw [hN]; exact hN0)))
          have d2 : decide ((kk : Int) > (i : Int) + 1) = true := by have := hkk.out; simp; omega
          replace hN := Lib.hid hN
          clear hput hP1 hO1 hC1 hs1 hb1 hCr
          have hr1 : 0 ≤ (kk : Int) ∧ (kk : Int) ≤ (s.length : Int) := by omega
          have hr2 : 0 ≤ (i : Int) + 1 ∧ (i : Int) + 1 ≤ (kk : Int) := by have := hkk.out; omega
          have ew2 : IntKind.i64.wrap ((i : Int) + 1) = (i : Int) + 1 := IntWalk.i64_in _ (by omega)
          have hsub : bstr ((s.drop (i + 1)).take (nameLen (s.drop (i + 1)))) = B.extract (i + 1) kk := by
            rw [hex.out, hN.out]
            unfold sub
            rw [List.drop_take, ← hkk.out, show i + 1 + N - (i + 1) = N by omega]
          replace hsub := Lib.hid hsub
          go_upto_region 20 with fail
          refine wp_region_any (by kernel_rfl) ?_
          (try (change wpAny _ _ _ _ _ _ _ (World.drew _)))
          refine wpAny_take (i := 0) (v := ?_) rfl (by kernel_rfl) (by kernel_rfl) (by kernel_rfl) (fun _ _ _ h => h) (Or.inl ⟨by kernel_rfl, ?_⟩) ?_
          rotate_left
          · (intro w; go_simp; try with_reducible rfl)
          change wpAny _ _ _ _ _ _ (Act.put _ (some 104) _) _
          (try simp only [Act.put, List.setIfInBounds_toArray, List.set_cons_zero, List.set_cons_succ])
          refine wpAny_take (i := 1) (v := ?_) rfl (by kernel_rfl) (by kernel_rfl) (by kernel_rfl) (fun _ _ _ h => h) (Or.inl ⟨by kernel_rfl, ?_⟩) ?_
          rotate_left
          · (intro w; go_simp; try with_reducible rfl)
          change wpAny _ _ _ _ _ _ (Act.put _ (some 105) _) _
          (try simp only [Act.put, List.setIfInBounds_toArray, List.set_cons_zero, List.set_cons_succ])
          refine wpAny_take (i := 2) (v := ?_) rfl (by kernel_rfl) (by kernel_rfl) (by kernel_rfl) (fun _ _ _ h => h) (Or.inl ⟨by kernel_rfl, ?_⟩) ?_
          rotate_left
          · (intro w; go_simp; try with_reducible rfl)
          change wpAny _ _ _ _ _ _ (Act.put _ (some 106) _) _
          (try simp only [Act.put, List.setIfInBounds_toArray, List.set_cons_zero, List.set_cons_succ])
          refine wpAny_take (i := 3) (v := ?_) rfl (by kernel_rfl) (by kernel_rfl) (by kernel_rfl) (fun _ _ _ h => h) (Or.inl ⟨by kernel_rfl, ?_⟩) ?_
          rotate_left
          · (intro w; go_simp; try with_reducible rfl)
          change wpAny _ _ _ _ _ _ (Act.put _ (some 107) _) _
          (try simp only [Act.put, List.setIfInBounds_toArray, List.set_cons_zero, List.set_cons_succ])
          refine wpAny_take (i := 5) (v := ?_) rfl (by kernel_rfl) (by kernel_rfl) (by kernel_rfl) (fun _ _ _ h => h) (Or.inl ⟨by kernel_rfl, ?_⟩) ?_
          rotate_left
          · (intro w; go_simp; try with_reducible rfl)
          change wpAny _ _ _ _ _ _ (Act.put _ (some 109) _) _
          (try simp only [Act.put, List.setIfInBounds_toArray, List.set_cons_zero, List.set_cons_succ])
          refine wpAny_take (i := 6) (v := ?_) rfl (by kernel_rfl) (by kernel_rfl) (by kernel_rfl) (fun _ _ _ h => h) (Or.inl ⟨by kernel_rfl, ?_⟩) ?_
          rotate_left
          · (intro w; go_simp; try with_reducible rfl)
          change wpAny _ _ _ _ _ _ (Act.put _ (some 110) _) _
          (try simp only [Act.put, List.setIfInBounds_toArray, List.set_cons_zero, List.set_cons_succ])
          refine wpAny_take (i := 7) (v := ?_) rfl (by kernel_rfl) (by kernel_rfl) (by kernel_rfl) (fun _ _ _ h => h) (Or.inl ⟨by kernel_rfl, ?_⟩) ?_
          rotate_left
          · (intro w; go_simp; try with_reducible rfl)
          change wpAny _ _ _ _ _ _ (Act.put _ (some 111) _) _
          (try simp only [Act.put, List.setIfInBounds_toArray, List.set_cons_zero, List.set_cons_succ])
          refine wpAny_take (i := 10) (v := ?_) rfl (by kernel_rfl) (by kernel_rfl) (by kernel_rfl) (fun _ _ _ h => h) (Or.inl ⟨by kernel_rfl, ?_⟩) ?_
          rotate_left
          · (intro w; go_simp; try with_reducible rfl)
          change wpAny _ _ _ _ _ _ (Act.put _ (some 114) _) _
          (try simp only [Act.put, List.setIfInBounds_toArray, List.set_cons_zero, List.set_cons_succ])
          refine wpAny_ready (rs := [4, 8]) (by kernel_rfl) (by simp) ?_
          refine AllReady.cons rfl (fun K hK => ?_) ?_
          · go_simp
            (try (refine hK _ _ ?_; clear hK K))
            (try simp only [Act.put, List.setIfInBounds_toArray, List.set_cons_zero, List.set_cons_succ])
            refine wpAny_ready (rs := [8]) (by kernel_rfl) (by simp) ?_
            refine AllReady.cons rfl (fun K hK => ?_) ?_
            · go_simp
              (try (refine hK _ _ ?_; clear hK K))
              (try simp only [Act.put, List.setIfInBounds_toArray, List.set_cons_zero, List.set_cons_succ])
              refine wpAny_take (i := 9) (v := ?_) rfl (by kernel_rfl) (by kernel_rfl) (by kernel_rfl) (fun _ _ _ h => h) (Or.inl ⟨by kernel_rfl, ?_⟩) ?_
              rotate_left
              · (intro w; go_simp; try with_reducible rfl)
              change wpAny _ _ _ _ _ _ (Act.put _ (some 113) _) _
              (try simp only [Act.put, List.setIfInBounds_toArray, List.set_cons_zero, List.set_cons_succ])
              refine wpAny_take (i := 11) (v := ?_) rfl (by kernel_rfl) (by kernel_rfl) (by kernel_rfl) (fun _ _ _ h => h) (Or.inl ⟨by kernel_rfl, ?_⟩) ?_
              rotate_left
              · (intro w; go_simp; try with_reducible rfl)
              change wpAny _ _ _ _ _ _ (Act.put _ (some 115) _) _
              (try simp only [Act.put, List.setIfInBounds_toArray, List.set_cons_zero, List.set_cons_succ])
              refine wpAny_take (i := 12) (v := ?_) rfl (by kernel_rfl) (by kernel_rfl) (by kernel_rfl) (fun _ _ _ h => h) (Or.inl ⟨by kernel_rfl, ?_⟩) ?_
              rotate_left
              · (intro w; go_simp; try with_reducible rfl)
              change wpAny _ _ _ _ _ _ (Act.put _ (some 116) _) _
              (try simp only [Act.put, List.setIfInBounds_toArray, List.set_cons_zero, List.set_cons_succ])
              refine wpAny_ready (rs := [13]) (by kernel_rfl) (by simp) ?_
              refine AllReady.cons rfl (fun K hK => ?_) ?_
              · go_simp
                (try (refine hK _ _ ?_; clear hK K))
                (try simp only [Act.put, List.setIfInBounds_toArray, List.set_cons_zero, List.set_cons_succ])
                refine wpAny_ready (rs := [14]) (by kernel_rfl) (by simp) ?_
                refine AllReady.cons rfl (fun K hK => ?_) ?_
                · (refine step_append_sl rfl (.tmp 104) (.tmp 117) 36 rfl base 42 (.agg #[.bool false, .string ByteArray.empty]) 2 24 Try.underlying36 Try.info_part rfl (by decide) _ n (partsCells (flush l t)) (own_drew hO2.out |>.alloc _) rfl _ 1 (partCells ⟨true, (s.drop (i + 1)).take (nameLen (s.drop (i + 1)))⟩) (by unfold partCells; dsimp only; rw [hsub.out]; exact sl_wide_new wc.drew _ 42 2 rfl) rfl (by intro u hu; simp [partCells] at hu; rcases hu with rfl | rfl <;> rfl) (n + 1) rfl (by omega) (by decide) (Nat.le_trans hb2.out ((Chg.refl [] wc).drew.alloc (.cells #[.bool true, .string (B.extract (i + 1) kk)] 42)).size) ?_; intro A' c' w7 hO' hCh hat; refine hK _ _ ?_; clear hK K)
                  (try simp only [Act.put, List.setIfInBounds_toArray, List.set_cons_zero, List.set_cons_succ])
                  refine wpAny_take (i := 15) (v := ?_) rfl (by kernel_rfl) (by kernel_rfl) (by kernel_rfl) (fun _ _ _ h => h) (Or.inl ⟨by kernel_rfl, ?_⟩) ?_
                  rotate_left
                  · (intro w; go_simp; try with_reducible rfl)
                  change wpAny _ _ _ _ _ _ (Act.put _ (some 1) _) _
                  (try simp only [Act.put, List.setIfInBounds_toArray, List.set_cons_zero, List.set_cons_succ])
                  refine wpAny_done (by kernel_rfl) ?_ _
                  (try simp only [Act.put, List.setIfInBounds_toArray, List.set_cons_zero, List.set_cons_succ])
                  have hC7 := ((Chg.refl [] wc).drew.alloc (.cells #[.bool true, .string (B.extract (i + 1) kk)] 42))
                  have hP7 := (hP2.out.chg hC7 (by simp)).chg hCh (fun hm => hgA.out g (by simpa using hm) rfl)
                  have hC8 := (hC2.out.trans hC7).mono (S1 := g :: (Value.slice A n c0).ownBlock.toList) (by simp)
                  have hC9 := hC8.trans (hCh.mono (by simp +contextual))
                  have hat2 : (Value.slice A' (n + 1) c').ownBlock = (Value.slice A n c0).ownBlock ∨ ∀ q, (Value.slice A' (n + 1) c').ownBlock = some q → w.heap.size ≤ q := hat.imp id (fun h q hq => Nat.le_trans (Nat.le_trans hs2.out hC7.size) (h q hq))
                  have hP10 := Lib.hid (hP7.put kk)
                  have hSt : Chg [g] w7 (w7.setCell ⟨g, 1, none⟩ (.int .i64 kk)) := (Chg.refl [g] w7).setCell (.inl (by simp)) _
                  have hO10 := Lib.hid (own_chg hO' hSt (fun q hq hm => by
                    have hqg : q = g := by simpa using hm
                    subst hqg
                    have := (hO'.lt q hq).1
                    omega))
                  have hC10 := Lib.hid (hC9.trans (hSt.mono (by simp)))
                  clear k0 k1 f1 hC8 hC9 hC7
                  obtain ⟨k0, k1, -, -, -⟩ := hP7.c0
                  have f1 := hP7.f0 1
                  replace hat2 := Lib.hid hat2
                  clear hO' hCh hat hP7 hSt hP2 hO2 hC2 hr1 hr2 ew2 d1 d2
                  go_wp2_with fail
                  go_ret
                  refine ⟨A', n + 1, c', rfl, hC10.out, hat2.out, flush l t ++ [⟨true, (s.drop (i + 1)).take (nameLen (s.drop (i + 1)))⟩], [], open_var _ _, ?_, ?_, .inl ⟨kk, ?_, hNl, ?_, by simp, ?_, hP10.out⟩⟩
                  · rw [flush_nil, List.length_append, hn.out]; rfl
                  · rw [flush_nil, partsCells_snoc]; exact hO10.out
                  · have := hkk.out; omega
                  · have := hkk.out
                    have h3 := flush_len (l := l) (t := t)
                    simp; omega
                  · rw [hp.out, hN.out, hkk.out]
                exact AllReady.nil
              exact AllReady.nil
            exact AllReady.nil
          refine AllReady.cons rfl (fun K hK => ?_) ?_
          · go_simp
            (try (refine hK _ _ ?_; clear hK K))
            (try simp only [Act.put, List.setIfInBounds_toArray, List.set_cons_zero, List.set_cons_succ])
            refine wpAny_take (i := 9) (v := ?_) rfl (by kernel_rfl) (by kernel_rfl) (by kernel_rfl) (fun _ _ _ h => h) (Or.inl ⟨by kernel_rfl, ?_⟩) ?_
            rotate_left
            · (intro w; go_simp; try with_reducible rfl)
            change wpAny _ _ _ _ _ _ (Act.put _ (some 113) _) _
            (try simp only [Act.put, List.setIfInBounds_toArray, List.set_cons_zero, List.set_cons_succ])
            refine wpAny_ready (rs := [4]) (by kernel_rfl) (by simp) ?_
            refine AllReady.cons rfl (fun K hK => ?_) ?_
            · go_simp
              (try (refine hK _ _ ?_; clear hK K))
              (try simp only [Act.put, List.setIfInBounds_toArray, List.set_cons_zero, List.set_cons_succ])
              refine wpAny_take (i := 11) (v := ?_) rfl (by kernel_rfl) (by kernel_rfl) (by kernel_rfl) (fun _ _ _ h => h) (Or.inl ⟨by kernel_rfl, ?_⟩) ?_
              rotate_left
              · (intro w; go_simp; try with_reducible rfl)
              change wpAny _ _ _ _ _ _ (Act.put _ (some 115) _) _
              (try simp only [Act.put, List.setIfInBounds_toArray, List.set_cons_zero, List.set_cons_succ])
              refine wpAny_take (i := 12) (v := ?_) rfl (by kernel_rfl) (by kernel_rfl) (by kernel_rfl) (fun _ _ _ h => h) (Or.inl ⟨by kernel_rfl, ?_⟩) ?_
              rotate_left
              · (intro w; go_simp; try with_reducible rfl)
              change wpAny _ _ _ _ _ _ (Act.put _ (some 116) _) _
              (try simp only [Act.put, List.setIfInBounds_toArray, List.set_cons_zero, List.set_cons_succ])
              refine wpAny_ready (rs := [13]) (by kernel_rfl) (by simp) ?_
              refine AllReady.cons rfl (fun K hK => ?_) ?_
              · go_simp
                (try (refine hK _ _ ?_; clear hK K))
                (try simp only [Act.put, List.setIfInBounds_toArray, List.set_cons_zero, List.set_cons_succ])
                refine wpAny_ready (rs := [14]) (by kernel_rfl) (by simp) ?_
                refine AllReady.cons rfl (fun K hK => ?_) ?_
                · (refine step_append_sl rfl (.tmp 104) (.tmp 117) 36 rfl base 42 (.agg #[.bool false, .string ByteArray.empty]) 2 24 Try.underlying36 Try.info_part rfl (by decide) _ n (partsCells (flush l t)) (own_drew hO2.out |>.alloc _) rfl _ 1 (partCells ⟨true, (s.drop (i + 1)).take (nameLen (s.drop (i + 1)))⟩) (by unfold partCells; dsimp only; rw [hsub.out]; exact sl_wide_new wc.drew _ 42 2 rfl) rfl (by intro u hu; simp [partCells] at hu; rcases hu with rfl | rfl <;> rfl) (n + 1) rfl (by omega) (by decide) (Nat.le_trans hb2.out ((Chg.refl [] wc).drew.alloc (.cells #[.bool true, .string (B.extract (i + 1) kk)] 42)).size) ?_; intro A' c' w7 hO' hCh hat; refine hK _ _ ?_; clear hK K)
                  (try simp only [Act.put, List.setIfInBounds_toArray, List.set_cons_zero, List.set_cons_succ])
                  refine wpAny_take (i := 15) (v := ?_) rfl (by kernel_rfl) (by kernel_rfl) (by kernel_rfl) (fun _ _ _ h => h) (Or.inl ⟨by kernel_rfl, ?_⟩) ?_
                  rotate_left
                  · (intro w; go_simp; try with_reducible rfl)
                  change wpAny _ _ _ _ _ _ (Act.put _ (some 1) _) _
                  (try simp only [Act.put, List.setIfInBounds_toArray, List.set_cons_zero, List.set_cons_succ])
                  refine wpAny_done (by kernel_rfl) ?_ _
                  (try simp only [Act.put, List.setIfInBounds_toArray, List.set_cons_zero, List.set_cons_succ])
                  have hC7 := ((Chg.refl [] wc).drew.alloc (.cells #[.bool true, .string (B.extract (i + 1) kk)] 42))
                  have hP7 := (hP2.out.chg hC7 (by simp)).chg hCh (fun hm => hgA.out g (by simpa using hm) rfl)
                  have hC8 := (hC2.out.trans hC7).mono (S1 := g :: (Value.slice A n c0).ownBlock.toList) (by simp)
                  have hC9 := hC8.trans (hCh.mono (by simp +contextual))
                  have hat2 : (Value.slice A' (n + 1) c').ownBlock = (Value.slice A n c0).ownBlock ∨ ∀ q, (Value.slice A' (n + 1) c').ownBlock = some q → w.heap.size ≤ q := hat.imp id (fun h q hq => Nat.le_trans (Nat.le_trans hs2.out hC7.size) (h q hq))
                  have hP10 := Lib.hid (hP7.put kk)
                  have hSt : Chg [g] w7 (w7.setCell ⟨g, 1, none⟩ (.int .i64 kk)) := (Chg.refl [g] w7).setCell (.inl (by simp)) _
                  have hO10 := Lib.hid (own_chg hO' hSt (fun q hq hm => by
                    have hqg : q = g := by simpa using hm
                    subst hqg
                    have := (hO'.lt q hq).1
                    omega))
                  have hC10 := Lib.hid (hC9.trans (hSt.mono (by simp)))
                  clear k0 k1 f1 hC8 hC9 hC7
                  obtain ⟨k0, k1, -, -, -⟩ := hP7.c0
                  have f1 := hP7.f0 1
                  replace hat2 := Lib.hid hat2
                  clear hO' hCh hat hP7 hSt hP2 hO2 hC2 hr1 hr2 ew2 d1 d2
                  go_wp2_with fail
                  go_ret
                  refine ⟨A', n + 1, c', rfl, hC10.out, hat2.out, flush l t ++ [⟨true, (s.drop (i + 1)).take (nameLen (s.drop (i + 1)))⟩], [], open_var _ _, ?_, ?_, .inl ⟨kk, ?_, hNl, ?_, by simp, ?_, hP10.out⟩⟩
                  · rw [flush_nil, List.length_append, hn.out]; rfl
                  · rw [flush_nil, partsCells_snoc]; exact hO10.out
                  · have := hkk.out; omega
                  · have := hkk.out
                    have h3 := flush_len (l := l) (t := t)
                    simp; omega
                  · rw [hp.out, hN.out, hkk.out]
                exact AllReady.nil
              exact AllReady.nil
            exact AllReady.nil
          exact AllReady.nil
  · have e36 := u8n (n := 36) h36
    have hE := Lib.hid ((hplus.out (fun h => h36 h.1)).resolve_right (fun h => h36 h.1))
    clear hplus hp
    obtain ⟨wp, hwp, hP2, hO2, hC2, hb2, hs2⟩ := hput.out w1 ((i : Int) + 1) (Chg.refl _ _)
    clear hput
    go_wp2_with fail
    refine (add_ref wp base A n c0 l t c hol.out hn.out hn9 (by omega) hO2.out hb2.out).mono ?_
    rintro e w4 ⟨A', n', c', rfl, hn', hO4, hC4, hw4⟩
    have hP4 := Lib.hid (hP2.out.chg hC4 (fun hm => hgA.out g (by simpa using hm) rfl))
    have hC5 := Lib.hid ((hC2.out.mono (S1 := g :: (Value.slice A n c0).ownBlock.toList) (by simp)).trans (hC4.mono (by simp +contextual)))
    replace hO4 := Lib.hid hO4
    replace hn' := Lib.hid hn'
    replace hw4 := Lib.hid hw4
    clear hC4 hP2 hO2 hC2 k0 k1 f1
    go_wp2_with fail
    go_ret
    exact ⟨A', n', c', rfl, hC5.out, hw4.out.imp id (fun h q hq => Nat.le_trans hs2.out (h q hq)), l, t ++ [c], hol.out, hn'.out, hO4.out, .inl ⟨i + 1, by omega, by omega, by omega, by simp; omega, hE.out, hP4.out⟩⟩
end Rt
end Go.Proofs.Ytakcolililbkjaa
