/- Contract of package gen's Script, where the number and the events are right. Conditions: as it states. -/
import Derived.Test.YtncoedoiakaedaaDoorJs
import Derived.Test.YtncoedoiakaedaaDoorRange
set_option linter.unusedVariables false
set_option linter.unusedSimpArgs false
namespace Go.Proofs.YtncoedoiakaedaaDoor
open Go.RowKit Go.Shelf Tcl Tail Turn Tl Ev_ Ar
attribute [local go_sem] Oper.semAt_some
namespace Gn
set_option maxRecDepth 100000 in
set_option maxHeartbeats 8000000 in
theorem script_ok (w : World) (evs : List EI) (A : Option Addr) (n c : Nat) (cells : List Value) (en : Bool) (m : Nat) (hn : evs.length = n) (hm1 : 1 ≤ m) (hm2 : m ≤ 1048576) (hck : checkI evs = 0) (hS : Sl w 3 (.slice A n c) n cells) (hE : EvC w cells evs) (htab : Pow10 w) :
    Calls Tryd.prog 11 #[.agg #[.slice A n c, .bool en], .int .i64 m] w fun e w' => e = .returned (.tuple #[.string (bstr (scriptT m (turnsI evs) en)), .int .i64 0]) ∧ Chg [] w w' := by
  obtain ⟨hn4, ht4⟩ := check_zero hck
  have hk1 : ¬ ((m : Nat) : Int) < 1 := by omega
  have hk2 : ¬ (1048576 : Int) < ((m : Nat) : Int) := by omega
  obtain ⟨s, hs⟩ : ∃ s, w.heap.size = s := ⟨_, rfl⟩
  obtain ⟨w2, hw2⟩ : ∃ w2, (w.alloc (.cells #[.slice A n c, .bool en] 26 (0, 0))).alloc (.cells #[.int .i64 m] 3 (0, 0)) = w2 := ⟨_, rfl⟩
  have hC2 : Chg [] w w2 := by rw [← hw2]; exact ((Chg.refl [] w).alloc _).alloc _
  have hz2 : w2.heap.size = s + 2 := by rw [← hw2, size_alloc, size_alloc, hs]
  have hb2 : w2.heap[s]? = some (.cells #[.slice A n c, .bool en] 26 (0, 0)) := by rw [← hw2, ← hs]; exact blk_alloc (blk_new _ _) _
  have hb3 : w2.heap[s + 1]? = some (.cells #[.int .i64 m] 3 (0, 0)) := by
    rw [← hw2, ← hs]
    have := blk_new (w.alloc (.cells #[.slice A n c, .bool en] 26 (0, 0))) (.cells #[.int .i64 m] 3 (0, 0))
    rw [size_alloc] at this
    exact this
  have hch := Lib.hid (check_any w2 evs A n c cells hn (hS.chg hC2 (by simp)) (hE.chg0 hC2))
  rw [hck] at hch
  replace hn := Lib.hid hn
  replace hck := Lib.hid hck
  replace hS := Lib.hid hS
  replace hE := Lib.hid hE
  replace htab := Lib.hid htab
  have a0 : w2.cell? ⟨s, 0, none⟩ = some (.slice A n c) := by simp [World.cell?, hb2]
  have a1 : w2.cell? ⟨s + 1, 0, none⟩ = some (.int .i64 m) := by simp [World.cell?, hb3]
  replace hb2 := Lib.hid hb2
  replace hb3 := Lib.hid hb3
  replace hC2 := Lib.hid hC2
  replace hz2 := Lib.hid hz2
  refine (callsIn_wide (n := 8)).1 ?_
  refine callsIn_of_wp_marks Tryd.func11 rfl trivial ?_
  simp only [Tryd.ntmps11, List.size_toArray, List.length_cons, List.length_nil, Nat.reduceAdd, Nat.reduceSub, Array.replicate_succ, Array.replicate_zero, List.push_toArray, List.append_toArray, List.nil_append, List.cons_append]
  gi_wp2
  refine ⟨trivial, (callsIn_wide.2 hch.out).mono ?_⟩
  rintro e w3 ⟨rfl, hC3⟩
  obtain ⟨g, hg⟩ : ∃ g, w3.heap.size = g := ⟨_, rfl⟩
  have hgs : s + 2 ≤ g := by rw [← hg, ← hz2.out]; exact hC3.size
  have c0 : w3.heap[s]? = some (.cells #[.slice A n c, .bool en] 26 (0, 0)) := hC3.heap hb2.out (by simp)
  have c1 : w3.heap[s + 1]? = some (.cells #[.int .i64 m] 3 (0, 0)) := hC3.heap hb3.out (by simp)
  obtain ⟨w5, hw5⟩ : ∃ w5, (w3.alloc (.cells #[.pointer none, .slice none 0 0] 77 (0, 0))).alloc (.cells #[.int .i64 1] 3 (0, 0)) = w5 := ⟨_, rfl⟩
  have hC5 : Chg [] w3 w5 := by rw [← hw5]; exact ((Chg.refl [] w3).alloc _).alloc _
  have hz5 : w5.heap.size = g + 2 := by rw [← hw5, size_alloc, size_alloc, hg]
  have d0 : w5.heap[s]? = some (.cells #[.slice A n c, .bool en] 26 (0, 0)) := hC5.heap c0 (by simp)
  have d1 : w5.heap[s + 1]? = some (.cells #[.int .i64 m] 3 (0, 0)) := hC5.heap c1 (by simp)
  have d2 : Bl.Bd w5 g (.pointer none) (.slice none 0 0) [] := by
    rw [← hw5, ← hg]
    exact (Bl.Bd.init w3).chg ((Chg.refl [] _).alloc _) (by simp) (by simp)
  have d3 : w5.heap[g + 1]? = some (.cells #[.int .i64 1] 3 (0, 0)) := by
    rw [← hw5, ← hg]
    have := blk_new (w3.alloc (.cells #[.pointer none, .slice none 0 0] 77 (0, 0))) (.cells #[.int .i64 1] 3 (0, 0))
    rw [size_alloc] at this
    exact this
  have a2 : w5.cell? ⟨s, 0, none⟩ = some (.slice A n c) := by simp [World.cell?, d0]
  have hall := Lib.hid (all_any w5 A n c)
  have hC : Hid (Chg [] w w5) := Lib.hid ((hC2.out.trans hC3).trans hC5)
  replace d0 := Lib.hid d0
  replace d1 := Lib.hid d1
  replace d2 := Lib.hid d2
  replace d3 := Lib.hid d3
  replace hz5 := Lib.hid hz5
  clear hch hC3 hC5 c0 c1 hC2 hb2 hb3 hz2 hw2 a0 a1
  gi_wp2
  refine ⟨trivial, (callsIn_wide.2 hall.out).mono ?_⟩
  rintro e w6 ⟨rfl, hw6⟩
  have hC6 : Chg [] w5 w6 := by rw [hw6]; exact (Chg.refl [] w5).alloc _
  have hz6 : w6.heap.size = g + 3 := by rw [hw6, size_alloc, hz5.out]
  have hp6 : w6.cell? ⟨g + 2, 0, none⟩ = some (.slice A n c) := by
    have := blk_new w5 (.cells #[.slice A n c] 22 (0, 0))
    rw [← hw6, hz5.out] at this
    simp [World.cell?, this]
  rw [hz5.out]
  have hb6 := Bl.Bd.chg d2.out hC6 (by simp) (by simp)
  have d60 := hC6.heap d0.out (by simp)
  have d61 := hC6.heap d1.out (by simp)
  have d63 := hC6.heap d3.out (by simp)
  have hC60 := Lib.hid (hC.out.trans hC6)
  replace hb6 := Lib.hid hb6
  replace d60 := Lib.hid d60
  replace d61 := Lib.hid d61
  replace d63 := Lib.hid d63
  replace hp6 := Lib.hid hp6
  clear hw6 hall hw5 a2 d0 d1 d2 d3 hC hC6
  gi_wp2
  refine range_law (gf := 37) (lb := #[.pointer (some ⟨g + 2, 0, none⟩)]) rfl (enters_of Tryd.func37 (by kernel_rfl) rfl) ?_
  intro l D ready busy done W7 hD hl hC7 hz7 hD7 hL7 hn1 hn2 hn3 hround
  rw [hz6] at hD hl hz7
  obtain ⟨tv, htv⟩ : ∃ tv : Array Value, #[.slice A n c, .bool en] = tv := ⟨_, rfl⟩
  have hj0 : JS w s g D l (g + 5) tv m ready (fun _ => False) (bodyT m []) (longT m []) W7 := by
    refine ⟨by omega, hC60.out.trans hC7, ?_, hC7.heap d61.out (by simp), ⟨_, _, .inl rfl, hb6.out.chg hC7 (by simp) (by simp), by simp⟩, hC7.heap d63.out (by simp), hD7, hL7, fun cs f => hn1 cs _ f, by omega, by simp, by simp⟩
    rw [← htv]; exact hC7.heap d60.out (by simp)
  have hp7 : W7.cell? ⟨g + 2, 0, none⟩ = some (.slice A n c) := hC7.cell hp6.out (by simp)
  have hC70 := hC60.out.trans hC7
  refine (all1_in 7 l (g + 2) n c evs A cells W7 (fun av ts W => JS w s g D l (g + 5) tv m ready av (bodyT m ts) (longT m ts) W) (fun av av' ts X Y h1 h2 h3 h4 => h1.abide h2 h3 h4) (fun av ts X h => h.hi) ?_ hp7 hn.out (by have := hn.out; omega) (by omega) (hS.out.chg hC70 (by simp)) (hE.out.chg0 hC70) hj0).mono ?_
  · replace hl := Lib.hid hl
    replace hD := Lib.hid hD
    clear hj0 hp7 hC70 hp6 hb6 d60 d61 d63 hC60 hC7 hD7 hL7 hz7
    intro av ts x W1 q vo vi hj hx hx1 hx2 hpre
    obtain ⟨⟨Ao, co, rfl⟩, ⟨Ai, ci, rfl⟩, hso, hsi, hao, hai⟩ := hx
    obtain ⟨o, i⟩ := x
    simp only at hso hsi hx1 hx2 hao hai
    refine hround _ _ W1 _ hj.L rfl ?_
    clear hround htv
    gi_wp2
    obtain ⟨bx, hbx⟩ : ∃ bx, W1.heap.size = bx := ⟨_, rfl⟩
    obtain ⟨Wa, hWa⟩ : ∃ Wa, W1.alloc (.cells #[.slice Ao o.length co, .slice Ai i.length ci] 46 (0, 0)) = Wa := ⟨_, rfl⟩
    have hCa : Chg [] W1 Wa := by rw [← hWa]; exact (Chg.refl [] W1).alloc _
    have hza : Wa.heap.size = bx + 1 := by rw [← hWa, size_alloc, hbx]
    have hxa : Wa.heap[bx]? = some (.cells #[.slice Ao o.length co, .slice Ai i.length ci] 46 (0, 0)) := by rw [← hWa, ← hbx]; exact blk_new _ _
    have hja := hj.abide (av' := fun q => av q ∨ q = bx) (ChgP.of hCa (by simp)) (fun q hq => hq.imp id (fun h => by rw [h, hbx]; exact Nat.le_refl _)) (fun q hq => by rcases hq with h | h; exact Nat.lt_of_lt_of_le (hj.hi q h) hCa.size; rw [h, hza]; omega)
    rw [hWa]
    refine ⟨hja.L, ?_⟩
    have hord := hja.ord
    have hbase : g + 5 ≤ bx := by rw [← hbx]; exact hj.bs
    obtain ⟨hjb, hkb⟩ := hja.put busy (fun cs f => hn2 cs _ f)
    obtain ⟨Wb, hWb⟩ : ∃ Wb, Wa.putObj l busy = Wb := ⟨_, rfl⟩
    rw [hWb] at hjb hkb ⊢
    have hlb : ∀ k, k ≠ l → Wb.heap[k]? = Wa.heap[k]? := fun k hk => by rw [← hWb]; exact World.putObj_heap_other (by omega)
    have hzb : Wb.heap.size = bx + 1 := by rw [← hWb, ← hza]; simp [World.putObj]
    have hxb : Wb.heap[bx]? = some (.cells #[.slice Ao o.length co, .slice Ai i.length ci] 46 (0, 0)) := (hlb bx (by omega)).trans hxa
    have hcp : ChgP (fun k => k = l) W1 Wb := ⟨by rw [← hWb]; exact hCa.os, by rw [← hWb]; exact hCa.tape, by rw [← hWb]; exact hCa.output, by rw [hzb, hbx]; omega, fun k hk hn => (hlb k hn).trans (hCa.block k hk (by simp))⟩
    have hnav : ¬ av l := fun h => by have := hj.lo l h; omega
    have hsob : Sl Wb 1 (.slice Ao o.length co) o.length (cellsOf .u8 (ns o)) := hcp.sl hso (fun _ k hk h => by rw [h] at hk; exact hnav (hao l hk))
    have hsib : Sl Wb 1 (.slice Ai i.length ci) i.length (cellsOf .u8 (ns i)) := hcp.sl hsi (fun _ k hk h => by rw [h] at hk; exact hnav (hai l hk))
    have hbb := hjb.m
    have y0 : Wb.cell? ⟨bx, 0, none⟩ = some (.slice Ao o.length co) := by simp [World.cell?, hxb]
    have y1 : Wb.cell? ⟨s + 1, 0, none⟩ = some (.int .i64 m) := by simp [World.cell?, hbb]
    have hpre2 := hpre
    have hto : totT (ts ++ [(o, i)]) ≤ 262144 ∧ (ts ++ [(o, i)]).length ≤ 4097 := by
      obtain ⟨r, hr⟩ := hpre
      have h1 := turnsI_tot evs
      rw [← hr, totT_append, List.length_append] at h1
      omega
    have hpc := Lib.hid (pieces_any Wb o Ao o.length co m rfl (by have := hto.1; rw [totT_append] at this; unfold totT at this; simp at this; omega) hm1 hm2 hsob)
    replace hxb := Lib.hid hxb
    replace hsib := Lib.hid hsib
    replace hjb := Lib.hid hjb
    replace hkb := Lib.hid hkb
    replace hlb := Lib.hid hlb
    replace hj := Lib.hid hj
    replace hto := Lib.hid hto
    replace hWa := Lib.hid hWa
    replace hWb := Lib.hid hWb
    have hCa9 := Lib.hid hCa
    replace hai := Lib.hid hai
    obtain ⟨ps, hps⟩ : ∃ ps, pieces o m = ps := ⟨_, rfl⟩
    have hpl := pieces_le (t := o) hm1
    rw [hps] at hpc hpl
    obtain ⟨k, hk⟩ : ∃ k, ps.length = k := ⟨_, rfl⟩
    replace hps := Lib.hid hps
    replace hpl := Lib.hid hpl
    clear hxa hja hCa hcp hsob hso hsi hbb hpre hpre2
    gi_wp2
    refine ⟨trivial, (CallsIn.inRound l (callsIn_wide.2 hpc.out)).mono ?_⟩
    rintro e W4 ⟨v, rfl, ⟨cs4, hbg⟩, hC4⟩
    obtain ⟨Ap, cp, rfl⟩ := own_form hbg.1
    rw [hk]
    obtain ⟨z4, hz4⟩ : ∃ z4, W4.heap.size = z4 := ⟨_, rfl⟩
    have hz4b : bx + 1 ≤ z4 := by rw [← hz4, ← hzb]; exact hC4.size
    have hj4 := hjb.out.abide (av' := fun q => av q ∨ (bx ≤ q ∧ q < z4)) (ChgP.of hC4 (by simp)) (fun q hq => by
      rcases hq with h | h
      · exact .inl (.inl h)
      · rcases Nat.lt_or_ge bx q with h2 | h2
        · right; omega
        · exact .inl (.inr (by omega))) (fun q hq => by
      rcases hq with h | h
      · have := hj.out.hi q h; omega
      · omega)
    obtain ⟨txt, htxt⟩ : ∃ txt, bodyT m ts = txt := ⟨_, rfl⟩
    obtain ⟨lg, hlg⟩ : ∃ lg, longT m ts = lg := ⟨_, rfl⟩
    rw [htxt, hlg] at hj4
    replace hj4 := Lib.hid hj4
    replace hbg := Lib.hid hbg
    replace hC4 := Lib.hid hC4
    replace htxt := Lib.hid htxt
    replace hlg := Lib.hid hlg
    replace hk := Lib.hid hk
    have hk63 : k ≤ 262144 := by have := hpl.out.1; have h2 := hto.out.1; rw [hk.out] at this; rw [totT_append] at h2; unfold totT at h2; simp at h2; omega
    have hK1 : Hid (Keeps av W1 W4) := Lib.hid (((Keeps.of hCa9.out (by simp)).trans (hkb.out.mono (fun q hq => .inl hq))).trans (Keeps.of hC4.out (by simp)))
    clear hpc hjb
    gi_wp2
    gi_loopw [14, 42] (fun v14 v42 wr => ∃ j : Nat, v42 = .int .i64 j ∧ j ≤ k ∧ Hid (JS w s g D l (g + 5) tv m busy (fun q => av q ∨ (bx ≤ q ∧ q < z4)) (txt ++ ((ps.take j).map pieceT).flatten) (longP lg (ps.take j)) wr) ∧ Hid (Keeps (fun q => av q ∨ (bx ≤ q ∧ q < z4)) W4 wr)) (fun _ v42 _ => k - (intOf v42).toNat)
    case atStart => exact ⟨0, rfl, by omega, Lib.hid (by simpa [longP] using hj4.out), Lib.hid (Keeps.refl _ _)⟩
    case round =>
      obtain ⟨j, rfl, hjk, hJ, hK⟩ := hrel
      by_cases hlt : j < k
      · obtain ⟨x, hx⟩ : ∃ x, ps[j]? = some x := ⟨_, List.getElem?_eq_getElem (by rw [hk.out]; exact hlt)⟩
        obtain ⟨gp, rfl, hgp⟩ := own_some (by have := hbg.out.1; rw [hk.out] at this; exact this) (show 0 < k by omega)
        obtain ⟨Aj, cj, hcj, hsj, hbj⟩ := hbg.out.2 j x hx
        have hgz := own_lt' hbg.out.1 gp rfl
        have e0 := (own_cell hbg.out.1 hcj).1
        have e1 : wr.cell? ⟨gp, j, none⟩ = some (.slice Aj x.length cj) := by
          have h9 := hK.out.at (k := gp) (by omega) (.inr ⟨by omega, by omega⟩)
          unfold World.cell? at e0 ⊢
          rw [h9]
          exact e0
        have hsr : Hid (Sl wr 1 (.slice Aj x.length cj) x.length (cellsOf .u8 (nums x))) := Lib.hid (hK.out.sl hsj (fun hp q hq => by
          have h8 := hbj (by simpa [nums] using hp) q hq
          have h9 := hsj.lt (by simpa [nums] using hp) q hq
          simp only [Classical.not_not]
          exact .inr ⟨by omega, by omega⟩))
        have hblk : Hid (0 < x.length → ∀ q, (Value.slice Aj x.length cj).ownBlock = some q → bx + 1 ≤ q) := Lib.hid (fun hp q hq => by have := (hbj hp q hq).2; omega)
        have hxl := hpl.out.2 x (List.mem_of_getElem? hx)
        have hoL : o.length ≤ 262144 := by have h2 := hto.out.1; rw [totT_append] at h2; unfold totT at h2; simp at h2; omega
        have htk : ps.take (j + 1) = ps.take j ++ [x] := by rw [List.take_add_one, hx]; rfl
        obtain ⟨lj, hlj⟩ : ∃ lj, longP lg (ps.take j) = lj := ⟨_, rfl⟩
        have hlj2 : Hid (longP lg (ps.take (j + 1)) = max lj x.length) := Lib.hid (by rw [htk, longP_snoc, hlj])
        obtain ⟨tj, htj⟩ : ∃ tj, txt ++ ((ps.take j).map pieceT).flatten = tj := ⟨_, rfl⟩
        have htj2 : Hid (txt ++ ((ps.take (j + 1)).map pieceT).flatten = tj ++ pieceT x) := Lib.hid (by rw [htk, List.map_append, List.flatten_append, ← htj, List.append_assoc]; simp)
        rw [hlj, htj] at hJ
        have hlgc := hJ.out.lg
        have f1 : wr.cell? ⟨g + 1, 0, none⟩ = some (.int .i64 lj) := by simp [World.cell?, hlgc]
        have f2 : wr.frozen? ⟨g + 1, 0, none⟩ = false := by simp [World.frozen?, hlgc]
        have htl : tj.length ≤ 70368744177664 - 2000000 := by
          have h1 := bodyT_len hm1 (ts := ts) (by have := hto.out.1; rw [totT_append] at this; omega)
          have h2 := hto.out
          rw [totT_append, List.length_append] at h2
          have h3 := flatten_le (l := (ps.take j).map pieceT) (c := 1048611) (fun z hz => by
            simp only [List.mem_map] at hz
            obtain ⟨p, hp, rfl⟩ := hz
            have h4 := pieceT_len p
            have h5 := (hpl.out.2 p (List.mem_of_mem_take hp)).1
            omega)
          rw [List.length_map, List.length_take] at h3
          have h6 : min j ps.length * 1048611 ≤ 262144 * 1048611 := Nat.mul_le_mul_right _ (by omega)
          have h7 : totT ts * 1048611 ≤ 262144 * 1048611 := Nat.mul_le_mul_right _ (by omega)
          rw [← htj, List.length_append, ← htxt.out]
          omega
        have hpx := pieceT_len x
        clear hcj hsj hbj e0 hgz htk hlgc htj
        obtain ⟨hJs, hKs⟩ := hJ.out.set (max lj x.length)
        have em : ((max lj x.length : Nat) : Int) = max (lj : Int) (x.length : Int) := by omega
        rw [em] at hJs hKs
        obtain ⟨Wc, hWc⟩ : ∃ Wc, wr.setCell ⟨g + 1, 0, none⟩ (.int .i64 (max (lj : Int) (x.length : Int))) = Wc := ⟨_, rfl⟩
        rw [hWc] at hJs hKs
        have hsc : Sl Wc 1 (.slice Aj x.length cj) x.length (cellsOf .u8 (nums x)) := by
          refine hsr.out.chg (S := [g + 1]) (by rw [← hWc]; exact (Chg.refl [g + 1] wr).setCell (.inl (by simp)) _) (fun hp q hq hm => ?_)
          have h9 := hblk.out (by simpa [nums] using hp) q hq
          simp at hm
          omega
        have hqt := Lib.hid (Bl.quote_w x x.length cj rfl (by omega) Aj Wc hsc)
        replace hJs := Lib.hid hJs
        replace hKs := Lib.hid hKs
        clear hsc hsr hJ em
        gi_wp2
        refine ⟨trivial, (CallsIn.inRound l (callsIn_wide.2 hqt.out)).mono ?_⟩
        rintro e Wd ⟨rfl, hCd⟩
        have hB : (⟨#[101, 120, 112, 101, 99, 116, 32, 123, 45, 101, 120, 97, 99, 116, 32]⟩ : ByteArray) ++ bstr (quoteQ x) ++ (⟨#[32, 123, 125, 32, 101, 111, 102, 32, 123, 101, 120, 105, 116, 32, 49, 125, 125, 10]⟩ : ByteArray) = bstr (pieceT x) := by
          show bstr exp1 ++ bstr (quoteQ x) ++ bstr exp2 = _
          rw [bstr_app, bstr_app]; rfl
        have hwr := Lib.hid ((hJs.out.chg hCd).write (pieceT x) (by omega))
        rw [← hB] at hwr
        have hsz : (bstr (quoteQ x)).size = (quoteQ x).length := rfl
        have hql := Bl.quoteQ_len x
        have hb1 : ¬ (9223372036854775807 < (⟨#[101, 120, 112, 101, 99, 116, 32, 123, 45, 101, 120, 97, 99, 116, 32]⟩ : ByteArray).size + (bstr (quoteQ x)).size) := by rw [hsz]; show ¬ (_ < 15 + _); omega
        have hb2 : ¬ (9223372036854775807 < ((⟨#[101, 120, 112, 101, 99, 116, 32, 123, 45, 101, 120, 97, 99, 116, 32]⟩ : ByteArray) ++ bstr (quoteQ x)).size + (⟨#[32, 123, 125, 32, 101, 111, 102, 32, 123, 101, 120, 105, 116, 32, 49, 125, 125, 10]⟩ : ByteArray).size) := by rw [ByteArray.size_append, hsz]; show ¬ (_ < 15 + _ + 18); omega
        generalize bstr (quoteQ x) = B at hwr hb1 hb2 ⊢
        have hKd := Lib.hid ((hKs.out.trans (Keeps.of hCd (by simp))))
        clear hB hsz hql hqt hCd hJs hKs
        gi_wp2
        refine ⟨trivial, (CallsIn.inRound l (callsIn_wide.2 hwr.out)).mono ?_⟩
        rintro e We ⟨⟨n5, rfl⟩, hJe, hKe⟩
        have hJe2 : Hid (JS w s g D l (g + 5) tv m busy (fun q => av q ∨ (bx ≤ q ∧ q < z4)) (txt ++ ((ps.take (j + 1)).map pieceT).flatten) (longP lg (ps.take (j + 1))) We) := Lib.hid (by rw [htj2.out, hlj2.out]; exact hJe)
        have hKe2 := Lib.hid ((hK.out.trans hKd.out).trans hKe)
        clear hwr hJe hKe hKd hK hb1 hb2 f1 f2 e1
        gi_wp2
        exact ⟨⟨j + 1, by go_num, by omega, hJe2, hKe2⟩, by simp [intOf]; omega⟩
      · obtain rfl : j = k := by omega
        have htk : ps.take j = ps := List.take_of_length_le (by rw [hk.out]; exact Nat.le_refl _)
        rw [htk] at hJ
        have hxr : wr.heap[bx]? = some (.cells #[.slice Ao o.length co, .slice Ai i.length ci] 46 (0, 0)) := by
          rw [hK.out.at (k := bx) (by omega) (.inr ⟨Nat.le_refl _, by omega⟩)]
          exact hC4.out.heap hxb.out (by simp)
        have y2 : wr.cell? ⟨bx, 1, none⟩ = some (.slice Ai i.length ci) := by simp [World.cell?, hxr]
        have hKw : Hid (Keeps av W1 wr) := Lib.hid ((hK1.out.trans (hK.out.mono (fun q hq => .inl hq))))
        -- what a round hands back
        have hend : Hid (∀ (Wz : World) (tz : List UInt8), JS w s g D l (g + 5) tv m busy (fun q => av q ∨ (bx ≤ q ∧ q < z4)) tz (longP lg ps) Wz → Keeps (fun q => av q ∨ (bx ≤ q ∧ q < z4)) wr Wz → tz = txt ++ (ps.map pieceT).flatten ++ sendT i →
            Wz.heap[l]? = some busy ∧ ((Ending.returned (.bool true) = .returned (.bool true)) ∧ JS w s g D l (g + 5) tv m ready av (bodyT m (ts ++ [(o, i)])) (longT m (ts ++ [(o, i)])) (Wz.putObj l ready) ∧ ChgP (fun k => ¬ av k) W1 (Wz.putObj l ready))) := Lib.hid (fun Wz tz h1 h2 h3 => by
          obtain ⟨h4, h5⟩ := h1.put ready (fun cs f => hn1 cs _ f)
          refine ⟨h1.L, rfl, ?_, ?_⟩
          · rw [bodyT_snoc, longT_snoc, htxt.out, hlg.out]
            have e3 : turnT m (o, i) = (ps.map pieceT).flatten ++ sendT i := by unfold turnT; rw [hps.out]
            have e4 : pieces (o, i).1 m = ps := hps.out
            rw [e3, e4, ← List.append_assoc, ← h3]
            exact h4.sub (fun q hq => .inl hq)
          · exact ((hKw.out.trans (h2.mono (fun q hq => .inl hq))).trans (h5.mono (fun q hq => .inl hq))))
        by_cases hi0 : i = []
        · have hil : i.length = 0 := by rw [hi0]; rfl
          have hnp : ¬ (0 : Int) < (i.length : Int) := by omega
          have hfin := Lib.hid (hend.out wr _ hJ.out (Keeps.refl _ _) (by unfold sendT; rw [if_pos hi0, List.append_nil]))
          clear hend hxr hJ hK
          gi_wp2
          have h9 := hfin.out
          rw [hi0] at h9
          exact ⟨h9.1, rfl, h9.2.2⟩
        · have hpos : (0 : Int) < (i.length : Int) := by have := List.length_pos_iff.2 hi0; omega
          have hiL : i.length ≤ 262144 := by have h2 := hto.out.1; rw [totT_append] at h2; unfold totT at h2; simp at h2; omega
          have hsr : Sl wr 1 (.slice Ai i.length ci) i.length (cellsOf .u8 (nums i)) := hK.out.sl (hsib.out.chg hC4.out (by simp)) (fun hp q hq => by
            simp only [Classical.not_not]
            exact .inl (hai.out q hq))
          have hqt := Lib.hid (Bl.quote_w i i.length ci rfl (by omega) Ai wr hsr)
          have htl : (txt ++ (ps.map pieceT).flatten).length ≤ 70368744177664 - 2000000 := by
            have h1 := bodyT_len hm1 (ts := ts) (by have := hto.out.1; rw [totT_append] at this; omega)
            have h2 := hto.out
            rw [totT_append, List.length_append] at h2
            have hoL : o.length ≤ 262144 := by have h2 := hto.out.1; rw [totT_append] at h2; unfold totT at h2; simp at h2; omega
            have h3 := flatten_le (l := ps.map pieceT) (c := 1048611) (fun z hz => by
              simp only [List.mem_map] at hz
              obtain ⟨p, hp, rfl⟩ := hz
              have h4 := pieceT_len p
              have h5 := (hpl.out.2 p hp).1
              omega)
            rw [List.length_map] at h3
            have h6 : ps.length * 1048611 ≤ 262144 * 1048611 := Nat.mul_le_mul_right _ (by rw [hk.out]; omega)
            have h7 : totT ts * 1048611 ≤ 262144 * 1048611 := Nat.mul_le_mul_right _ (by omega)
            rw [List.length_append, ← htxt.out]
            omega
          replace htl := Lib.hid htl
          clear hsr hxr
          gi_wp2
          refine ⟨trivial, (CallsIn.inRound l (callsIn_wide.2 hqt.out)).mono ?_⟩
          rintro e Wd ⟨rfl, hCd⟩
          have hst : sendT i = snd1 ++ quoteQ i ++ [10] := by unfold sendT; rw [if_neg hi0]
          have hB : (⟨#[115, 101, 110, 100, 32]⟩ : ByteArray) ++ bstr (quoteQ i) ++ (⟨#[10]⟩ : ByteArray) = bstr (sendT i) := by
            rw [hst]
            show bstr snd1 ++ bstr (quoteQ i) ++ bstr [10] = _
            rw [bstr_app, bstr_app]
          have hql := Bl.quoteQ_len i
          have hsl : (sendT i).length ≤ 2000000 := by rw [hst, List.length_append, List.length_append, show snd1.length = 5 from rfl]; show 5 + _ + 1 ≤ _; omega
          have hwr := Lib.hid ((hJ.out.chg hCd).write (sendT i) (by have := htl.out; omega))
          rw [← hB] at hwr
          have hsz : (bstr (quoteQ i)).size = (quoteQ i).length := rfl
          have hb1 : ¬ (9223372036854775807 < (⟨#[115, 101, 110, 100, 32]⟩ : ByteArray).size + (bstr (quoteQ i)).size) := by rw [hsz]; show ¬ (_ < 5 + _); omega
          have hb2 : ¬ (9223372036854775807 < ((⟨#[115, 101, 110, 100, 32]⟩ : ByteArray) ++ bstr (quoteQ i)).size + (⟨#[10]⟩ : ByteArray).size) := by rw [ByteArray.size_append, hsz]; show ¬ (_ < 5 + _ + 1); omega
          generalize bstr (quoteQ i) = B at hwr hb1 hb2 ⊢
          have hKd := Lib.hid (Keeps.of hCd (S := (fun q => av q ∨ (bx ≤ q ∧ q < z4))) (by simp))
          clear hB hsz hql hqt hCd hst hsl
          gi_wp2
          refine ⟨trivial, (CallsIn.inRound l (callsIn_wide.2 hwr.out)).mono ?_⟩
          rintro e We ⟨⟨n5, rfl⟩, hJe, hKe⟩
          have hfin := Lib.hid (hend.out We _ hJe (hKd.out.trans hKe) rfl)
          clear hend hJ hK hwr hJe hKe hb1 hb2
          gi_wp2
          exact ⟨hfin.out.1, rfl, hfin.out.2.2⟩
  · replace hl := Lib.hid hl
    replace hD := Lib.hid hD
    replace htv2 := Lib.hid htv
    rintro e W9 ⟨⟨v9, rfl⟩, av, hJ9⟩
    refine ⟨⟨v9, rfl⟩, hJ9.L, ?_⟩
    obtain ⟨hJa, -⟩ := hJ9.put done (fun cs f => hn3 cs _ f)
    obtain ⟨Wp, hWp⟩ : ∃ Wp, W9.putObj l done = Wp := ⟨_, rfl⟩
    rw [hWp] at hJa ⊢
    obtain ⟨hto1, hto2⟩ := turnsI_tot evs
    have hTt : totT (turnsI evs) ≤ 262144 := by omega
    have hLe := longT_le hm1 hTt
    have hbl := bodyT_len hm1 hTt
    have hLp := longP_le (a := 1) (c := 1) (by decide) (ps := []) (by simp)
    have hm7 : totT (turnsI evs) * 1048611 ≤ 262144 * 1048611 := Nat.mul_le_mul_right _ hTt
    have hse := Lib.hid (show scriptT m (turnsI evs) en = hd1 ++ Lib.itoa (longT m (turnsI evs)) ++ hd2 ++ (bodyT m (turnsI evs) ++ (if en then eofl else [])) ++ ex0 from rfl)
    obtain ⟨tx, htx⟩ : ∃ tx, bodyT m (turnsI evs) = tx := ⟨_, rfl⟩
    obtain ⟨lg, hlg⟩ : ∃ lg, longT m (turnsI evs) = lg := ⟨_, rfl⟩
    rw [htx, hlg] at hJa
    rw [htx] at hbl
    rw [hlg] at hLe
    have htb := hJa.t
    rw [← htv] at htb
    have x1 : Wp.cell? ⟨s, 1, none⟩ = some (.bool en) := by simp [World.cell?, htb]
    have hn4' := hn.out
    replace htx := Lib.hid htx
    replace hlg := Lib.hid hlg
    have hlg2 : Hid (longT m (turnsI evs) = lg) := hlg
    have htxl : tx.length ≤ 300000000000 := by omega
    clear hj0 hp7 hC70 hp6 hb6 d60 d61 d63 hC60 hC7 hD7 hL7 hround hJ9 hWp hS hE htb hto1 hto2 hTt hm7
    cases en with
    | true =>
      have hwr := Lib.hid (hJa.write eofl (by rw [show eofl.length = 11 from rfl]; omega))
      clear hJa
      gi_wp2
      refine ⟨trivial, (callsIn_wide.2 hwr.out).mono ?_⟩
      rintro e We ⟨⟨n5, rfl⟩, hJw, -⟩
      obtain ⟨tz, htz⟩ : ∃ tz, tx ++ eofl = tz := ⟨_, rfl⟩
      have hzl : tz.length ≤ 70368744177664 := by rw [← htz, List.length_append, show eofl.length = 11 from rfl]; omega
      rw [htz] at hJw
      replace htz := Lib.hid (show tz = bodyT m (turnsI evs) ++ (if true then eofl else []) by rw [htx.out, ← htz]; rfl)
      clear hwr x1
      have hlc := hJw.lg
      have l1 : We.cell? ⟨g + 1, 0, none⟩ = some (.int .i64 lg) := by simp [World.cell?, hlc]
      have hit := Lib.hid (itoa_any (lg : Int) (by omega) (by omega) We (htab.out.chg hJw.C))
      have hil := itoa_len lg
      obtain ⟨it, hitx⟩ : ∃ it, Lib.itoa (lg : Int) = it := ⟨_, rfl⟩
      rw [hitx] at hit hil
      replace hJw := Lib.hid hJw
      clear hlc
      gi_wp2
      refine ⟨trivial, (callsIn_wide.2 hit.out).mono ?_⟩
      rintro e W2 ⟨rfl, hC2⟩
      have hJ2 := hJw.out.chg hC2
      obtain ⟨p2, v2, hp2, hb2, hv2⟩ := hJ2.bd
      have hst := Lib.hid (Bl.string_bd W2 g p2 v2 tz hb2)
      have hrow := Lib.hid (fun k hk => hJ2.row hb2 k hk)
      have hall : Hid ((⟨#[109, 97, 116, 99, 104, 95, 109, 97, 120, 32]⟩ : ByteArray) ++ bstr it ++ (⟨#[10, 115, 101, 116, 32, 116, 105, 109, 101, 111, 117, 116, 32, 45, 49, 10, 115, 112, 97, 119, 110, 32, 112, 101, 101, 114, 10]⟩ : ByteArray) ++ bstr tz ++ (⟨#[101, 120, 105, 116, 32, 48, 10]⟩ : ByteArray) = bstr (scriptT m (turnsI evs) true)) := Lib.hid (by
        rw [hse.out, hlg2.out, hitx, htz.out]
        show bstr hd1 ++ bstr it ++ bstr hd2 ++ bstr _ ++ bstr ex0 = _
        rw [bstr_app, bstr_app, bstr_app, bstr_app])
      have s1 : (bstr it).size = it.length := rfl
      have s2 : (bstr tz).size = tz.length := rfl
      have q1 : ¬ (9223372036854775807 < (⟨#[109, 97, 116, 99, 104, 95, 109, 97, 120, 32]⟩ : ByteArray).size + (bstr it).size) := by rw [s1]; show ¬ (_ < 10 + _); omega
      have q2 : ¬ (9223372036854775807 < ((⟨#[109, 97, 116, 99, 104, 95, 109, 97, 120, 32]⟩ : ByteArray) ++ bstr it).size + (⟨#[10, 115, 101, 116, 32, 116, 105, 109, 101, 111, 117, 116, 32, 45, 49, 10, 115, 112, 97, 119, 110, 32, 112, 101, 101, 114, 10]⟩ : ByteArray).size) := by rw [ByteArray.size_append, s1]; show ¬ (_ < 10 + _ + 27); omega
      have q3 : ¬ (9223372036854775807 < ((⟨#[109, 97, 116, 99, 104, 95, 109, 97, 120, 32]⟩ : ByteArray) ++ bstr it ++ (⟨#[10, 115, 101, 116, 32, 116, 105, 109, 101, 111, 117, 116, 32, 45, 49, 10, 115, 112, 97, 119, 110, 32, 112, 101, 101, 114, 10]⟩ : ByteArray)).size + (bstr tz).size) := by rw [ByteArray.size_append, ByteArray.size_append, s1, s2]; show ¬ (_ < 10 + _ + 27 + _); omega
      have q4 : ¬ (9223372036854775807 < ((⟨#[109, 97, 116, 99, 104, 95, 109, 97, 120, 32]⟩ : ByteArray) ++ bstr it ++ (⟨#[10, 115, 101, 116, 32, 116, 105, 109, 101, 111, 117, 116, 32, 45, 49, 10, 115, 112, 97, 119, 110, 32, 112, 101, 101, 114, 10]⟩ : ByteArray) ++ bstr tz).size + (⟨#[101, 120, 105, 116, 32, 48, 10]⟩ : ByteArray).size) := by rw [ByteArray.size_append, ByteArray.size_append, ByteArray.size_append, s1, s2]; show ¬ (_ < 10 + _ + 27 + _ + 7); omega
      generalize bstr it = S1 at hall q1 q2 q3 q4 ⊢
      generalize bstr tz = S2 at hall hst q3 q4 ⊢
      replace hJ2 := Lib.hid hJ2
      clear hit hC2 s1 s2 hp2 hb2 hv2 hJw l1
      gi_wp2
      refine ⟨trivial, (callsIn_wide.2 hst.out).mono ?_⟩
      rintro e W3 ⟨rfl, hC3⟩
      have hD3 : W3.heap[D]? = some (.deferred (some [])) := hC3.heap hJ2.out.D (fun hm => by have := (hrow.out D (by simpa using hm)).2.1; omega)
      have hCf : Hid (Chg [] w (W3.putObj D (.deferred none))) := Lib.hid (by
        have h1 := hJ2.out.ord
        have h2 := hJ2.out.C.then hC3 (fun k hk => .inr (by have := (hrow.out k (by simpa using hk)).1; omega))
        exact ⟨h2.os, h2.tape, h2.output, by have := h2.size; simpa [World.putObj] using this, fun k hk hn => (World.putObj_heap_other (by omega)).trans (h2.block k hk hn)⟩)
      clear hst hJ2 hC3 hrow
      gi_wp2
      refine ⟨by simp, .inl ⟨_, _, rfl, run_takeDeferred hD3, ?_⟩⟩
      exact ⟨_, results_tmp2 rfl _ _ _, by rw [← hall.out]; rfl, hCf.out⟩
    | false =>
      have hJw := hJa
      obtain ⟨tz, htz⟩ : ∃ tz, tx = tz := ⟨_, rfl⟩
      have hzl : tz.length ≤ 70368744177664 := by rw [← htz]; omega
      rw [htz] at hJw
      replace htz := Lib.hid (show tz = bodyT m (turnsI evs) ++ (if false then eofl else []) by rw [htx.out, ← htz]; simp)
      clear hJa
      have hlc := hJw.lg
      have l1 : Wp.cell? ⟨g + 1, 0, none⟩ = some (.int .i64 lg) := by simp [World.cell?, hlc]
      have hit := Lib.hid (itoa_any (lg : Int) (by omega) (by omega) Wp (htab.out.chg hJw.C))
      have hil := itoa_len lg
      obtain ⟨it, hitx⟩ : ∃ it, Lib.itoa (lg : Int) = it := ⟨_, rfl⟩
      rw [hitx] at hit hil
      replace hJw := Lib.hid hJw
      clear hlc
      gi_wp2
      refine ⟨trivial, (callsIn_wide.2 hit.out).mono ?_⟩
      rintro e W2 ⟨rfl, hC2⟩
      have hJ2 := hJw.out.chg hC2
      obtain ⟨p2, v2, hp2, hb2, hv2⟩ := hJ2.bd
      have hst := Lib.hid (Bl.string_bd W2 g p2 v2 tz hb2)
      have hrow := Lib.hid (fun k hk => hJ2.row hb2 k hk)
      have hall : Hid ((⟨#[109, 97, 116, 99, 104, 95, 109, 97, 120, 32]⟩ : ByteArray) ++ bstr it ++ (⟨#[10, 115, 101, 116, 32, 116, 105, 109, 101, 111, 117, 116, 32, 45, 49, 10, 115, 112, 97, 119, 110, 32, 112, 101, 101, 114, 10]⟩ : ByteArray) ++ bstr tz ++ (⟨#[101, 120, 105, 116, 32, 48, 10]⟩ : ByteArray) = bstr (scriptT m (turnsI evs) false)) := Lib.hid (by
        rw [hse.out, hlg2.out, hitx, htz.out]
        show bstr hd1 ++ bstr it ++ bstr hd2 ++ bstr _ ++ bstr ex0 = _
        rw [bstr_app, bstr_app, bstr_app, bstr_app])
      have s1 : (bstr it).size = it.length := rfl
      have s2 : (bstr tz).size = tz.length := rfl
      have q1 : ¬ (9223372036854775807 < (⟨#[109, 97, 116, 99, 104, 95, 109, 97, 120, 32]⟩ : ByteArray).size + (bstr it).size) := by rw [s1]; show ¬ (_ < 10 + _); omega
      have q2 : ¬ (9223372036854775807 < ((⟨#[109, 97, 116, 99, 104, 95, 109, 97, 120, 32]⟩ : ByteArray) ++ bstr it).size + (⟨#[10, 115, 101, 116, 32, 116, 105, 109, 101, 111, 117, 116, 32, 45, 49, 10, 115, 112, 97, 119, 110, 32, 112, 101, 101, 114, 10]⟩ : ByteArray).size) := by rw [ByteArray.size_append, s1]; show ¬ (_ < 10 + _ + 27); omega
      have q3 : ¬ (9223372036854775807 < ((⟨#[109, 97, 116, 99, 104, 95, 109, 97, 120, 32]⟩ : ByteArray) ++ bstr it ++ (⟨#[10, 115, 101, 116, 32, 116, 105, 109, 101, 111, 117, 116, 32, 45, 49, 10, 115, 112, 97, 119, 110, 32, 112, 101, 101, 114, 10]⟩ : ByteArray)).size + (bstr tz).size) := by rw [ByteArray.size_append, ByteArray.size_append, s1, s2]; show ¬ (_ < 10 + _ + 27 + _); omega
      have q4 : ¬ (9223372036854775807 < ((⟨#[109, 97, 116, 99, 104, 95, 109, 97, 120, 32]⟩ : ByteArray) ++ bstr it ++ (⟨#[10, 115, 101, 116, 32, 116, 105, 109, 101, 111, 117, 116, 32, 45, 49, 10, 115, 112, 97, 119, 110, 32, 112, 101, 101, 114, 10]⟩ : ByteArray) ++ bstr tz).size + (⟨#[101, 120, 105, 116, 32, 48, 10]⟩ : ByteArray).size) := by rw [ByteArray.size_append, ByteArray.size_append, ByteArray.size_append, s1, s2]; show ¬ (_ < 10 + _ + 27 + _ + 7); omega
      generalize bstr it = S1 at hall q1 q2 q3 q4 ⊢
      generalize bstr tz = S2 at hall hst q3 q4 ⊢
      replace hJ2 := Lib.hid hJ2
      clear hit hC2 s1 s2 hp2 hb2 hv2 hJw l1
      gi_wp2
      refine ⟨trivial, (callsIn_wide.2 hst.out).mono ?_⟩
      rintro e W3 ⟨rfl, hC3⟩
      have hD3 : W3.heap[D]? = some (.deferred (some [])) := hC3.heap hJ2.out.D (fun hm => by have := (hrow.out D (by simpa using hm)).2.1; omega)
      have hCf : Hid (Chg [] w (W3.putObj D (.deferred none))) := Lib.hid (by
        have h1 := hJ2.out.ord
        have h2 := hJ2.out.C.then hC3 (fun k hk => .inr (by have := (hrow.out k (by simpa using hk)).1; omega))
        exact ⟨h2.os, h2.tape, h2.output, by have := h2.size; simpa [World.putObj] using this, fun k hk hn => (World.putObj_heap_other (by omega)).trans (h2.block k hk hn)⟩)
      clear hst hJ2 hC3 hrow
      gi_wp2
      refine ⟨by simp, .inl ⟨_, _, rfl, run_takeDeferred hD3, ?_⟩⟩
      exact ⟨_, results_tmp2 rfl _ _ _, by rw [← hall.out]; rfl, hCf.out⟩
end Gn
end Go.Proofs.YtncoedoiakaedaaDoor
