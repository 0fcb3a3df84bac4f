/- The contract of match.First. Conditions: as it states. -/
import Derived.Test.YtojgdmpnbgikeaaNew
import Derived.Test.YtojgdmpnbgikeaaStart
set_option linter.unusedVariables false
set_option linter.unusedSimpArgs false
namespace Go.Proofs.Ytojgdmpnbgikeaa
open Go.RowKit PMatchFeeds YtojgdmpnbgikeaaW.PrintWords
namespace Mt
open Kmp Glob
/-- The first hit in some bytes, from e of them on, with m more behind. -/
def firstFrom (most : Nat) (l : List Br) (b : List UInt8) (e : Nat) : Nat → Option (Nat × Nat × Nat)
  | 0 => (hitOf most l (b.take e)).map fun p => (p.1, p.2, e)
  | m + 1 => match hitOf most l (b.take e) with
    | some p => some (p.1, p.2, e)
    | none => firstFrom most l b (e + 1) m
def firstOf (most : Nat) (l : List Br) (b : List UInt8) : Option (Nat × Nat × Nat) := firstFrom most l b 0 b.length
theorem first_go {most : Nat} {l : List Br} {b : List UInt8} : ∀ (m e : Nat), (∀ j, e ≤ j → j < e + m → hitOf most l (b.take j) = none) → ∀ n, firstFrom most l b e (m + n) = firstFrom most l b (e + m) n := by
  intro m
  induction m with
  | zero => intro e _ n; rw [Nat.zero_add]; rfl
  | succ m ih =>
    intro e h n
    rw [show m + 1 + n = (m + n) + 1 by omega, firstFrom, h e (Nat.le_refl _) (by omega)]
    simp only
    rw [ih (e + 1) (fun j h1 h2 => h j (by omega) (by omega)), show e + 1 + m = e + (m + 1) by omega]
theorem first_hit {most k : Nat} {l : List Br} {b : List UInt8} {p : Nat × Nat} (hk : k ≤ b.length) (h : ∀ j, j < k → hitOf most l (b.take j) = none) (hh : hitOf most l (b.take k) = some p) : firstOf most l b = some (p.1, p.2, k) := by
  unfold firstOf
  have := first_go (most := most) (l := l) (b := b) k 0 (fun j _ h2 => h j (by omega)) (b.length - k)
  rw [show k + (b.length - k) = b.length by omega, Nat.zero_add] at this
  rw [this]
  cases b.length - k with
  | zero => rw [firstFrom, hh]; rfl
  | succ n => rw [firstFrom, hh]
theorem first_none {most : Nat} {l : List Br} {b : List UInt8} (h : ∀ j, j ≤ b.length → hitOf most l (b.take j) = none) : firstOf most l b = none := by
  unfold firstOf
  have := first_go (most := most) (l := l) (b := b) b.length 0 (fun j _ h2 => h j (by omega)) 0
  rw [Nat.add_zero, Nat.zero_add] at this
  rw [this, firstFrom, h _ (Nat.le_refl _)]; rfl
def oi (o : Option (Nat × Nat)) : Int := match o with | some p => p.1 | none => 0
def of_ (o : Option (Nat × Nat)) : Int := match o with | some p => p.2 | none => 0
def on (o : Option (Nat × Nat)) (n : Nat) : Int := match o with | some _ => n | none => 0
theorem hitV_eq (o : Option (Nat × Nat)) (n : Nat) : hitV o n = .tuple #[.agg #[.int .i64 (oi o), .int .i64 (of_ o), .int .i64 (on o n)], .bool o.isSome] := by
  cases o <;> rfl
theorem results_cell3 {P : Program} {fn : Func} {p u v : Tmp} {ty : TypeId} (h : fn.results = #[.cell p ty, .tmp u, .tmp v]) (tmps : Array Value) (w : World) (g : Nat) (t : TypeId) (cs : Array Value) (fr : Nat × Nat) (d : TypeDesc) (b c : Value)
    (hp : tmps.getD p undef = .pointer (some ⟨g, 0, none⟩)) (hg : w.heap[g]? = some (.cells cs t fr))
    (hu : P.underlying ty = some d) (hd : (match d with | .struct _ | .array _ _ => true | _ => false) = true) (hi : (P.info? ty).map (·.size) = some cs.size) (hb : tmps.getD u undef = b) (hc : tmps.getD v undef = c) :
    (results fn tmps).run P w = .ok (.tuple #[.agg cs, b, c]) w := by
  have hp' : tmps[p]?.getD undef = .pointer (some ⟨g, 0, none⟩) := by simpa using hp
  have hb' : tmps[u]?.getD undef = b := by simpa using hb
  have hc' : tmps[v]?.getD undef = c := by simpa using hc
  simp [results, h, hp', hb', hc', asAddr, run_loadVar_row w g t ty cs fr d hg hu hd hi]
/-- What First tells. -/
def firstV (most : Int) (l : List Br) (b : List UInt8) : Value :=
  if newErr most l ≠ 0 then .tuple #[.agg #[.int .i64 0, .int .i64 0, .int .i64 0], .bool false, .int .i64 (newErr most l)]
  else match firstOf most.toNat l b with
    | some p => .tuple #[.agg #[.int .i64 p.1, .int .i64 p.2.1, .int .i64 p.2.2], .bool true, .int .i64 0]
    | none => .tuple #[.agg #[.int .i64 0, .int .i64 0, .int .i64 0], .bool false, .int .i64 0]
def FiEnd (w : World) (most : Int) (l : List Br) (b : List UInt8) (e : Ending) (w' : World) : Prop := Chg [] w w' ∧ e = .returned (firstV most l b)
set_option maxRecDepth 100000 in
set_option maxHeartbeats 16000000 in
theorem mfirst_any (w : World) (most : Int) (l : List Br) (b : List UInt8) (A Ab : Option Addr) (n c nb cb : Nat) (hn : l.length = n) (hS : Sl w 2 (.slice A n c) n (brCells l)) (hl : ∀ x ∈ l, x.pat.length ≤ 9223372036854775807) (hnb : b.length = nb) (hB : Sl w 1 (.slice Ab nb cb) nb (cellsOf .u8 (ns b))) (hb9 : nb < 900000) :
    Calls Try.prog 18 #[.int .i64 most, .slice Ab nb cb, .slice A n c] w (FiEnd w most l b) := by
  subst hnb
  have hC0 := (Chg.refl [] w).alloc (.cells #[.int .i64 0, .int .i64 0, .int .i64 0] 34)
  have hb6 := blk_new w (.cells #[.int .i64 0, .int .i64 0, .int .i64 0] 34)
  have hs0 : (w.alloc (.cells #[.int .i64 0, .int .i64 0, .int .i64 0] 34)).heap.size = w.heap.size + 1 := Array.size_push ..
  have hnew := Lib.hid (mnew_any (w.alloc (.cells #[.int .i64 0, .int .i64 0, .int .i64 0] 34)) most l A n c hn (hS.chg hC0 (by simp)) hl)
  replace hC0 := Lib.hid hC0
  replace hb6 := Lib.hid hb6
  replace hB := Lib.hid hB
  replace hs0 := Lib.hid hs0
  clear hS
  go_enter Try.func18, Try.ntmps18
  go_wp2_with fail
  refine (hnew.out).mono ?_
  rintro e w1 ⟨hC1, hcase⟩
  have hb61 := hC1.heap hb6.out (by simp)
  have z0 : w1.cell? ⟨w.heap.size, 0, none⟩ = some (.int .i64 0) := by simp [World.cell?, hb61]
  have z1 : w1.cell? ⟨w.heap.size, 1, none⟩ = some (.int .i64 0) := by simp [World.cell?, hb61]
  have z2 : w1.cell? ⟨w.heap.size, 2, none⟩ = some (.int .i64 0) := by simp [World.cell?, hb61]
  have y0 : w1.frozen? ⟨w.heap.size, 0, none⟩ = false := by simp [World.frozen?, hb61]
  have y1 : w1.frozen? ⟨w.heap.size, 1, none⟩ = false := by simp [World.frozen?, hb61]
  have y2 : w1.frozen? ⟨w.heap.size, 2, none⟩ = false := by simp [World.frozen?, hb61]
  have hs1 := hC1.size
  rw [hs0.out] at hs1
  replace hC1 := Lib.hid (hC0.out.trans hC1)
  replace hb61 := Lib.hid hb61
  clear hnew
  rcases hcase with ⟨hne, rfl⟩ | ⟨he0, hgood, g, F, rfl, hMS, hF⟩
  · have hne' : (newErr most l != 0) = true := by simpa using hne
    have hend : ∀ w', Chg [] w w' → FiEnd w most l b (.returned (.tuple #[.agg #[.int .i64 0, .int .i64 0, .int .i64 0], .bool false, .int .i64 (newErr most l)])) w' := fun w' hc => ⟨hc, by rw [firstV, if_pos hne]⟩
    replace hend := Lib.hid hend
    replace hne := Lib.hid hne
    go_wp2_with fail
    have hfin : (((w1.setCell ⟨w.heap.size, 0, none⟩ (.int .i64 0)).setCell ⟨w.heap.size, 1, none⟩ (.int .i64 0)).setCell ⟨w.heap.size, 2, none⟩ (.int .i64 0)).heap[w.heap.size]? = some (.cells #[.int .i64 0, .int .i64 0, .int .i64 0] 34 (0, 0)) := by
      have := blk_set (blk_set (blk_set hb61.out 0 (.int .i64 0)) 1 (.int .i64 0)) 2 (.int .i64 0)
      simpa using this
    have hCf : Chg [] w (((w1.setCell ⟨w.heap.size, 0, none⟩ (.int .i64 0)).setCell ⟨w.heap.size, 1, none⟩ (.int .i64 0)).setCell ⟨w.heap.size, 2, none⟩ (.int .i64 0)) := (((hC1.out).setCell (.inr (Nat.le_refl _)) _).setCell (.inr (Nat.le_refl _)) _).setCell (.inr (Nat.le_refl _)) _
    generalize (((w1.setCell ⟨w.heap.size, 0, none⟩ (.int .i64 0)).setCell ⟨w.heap.size, 1, none⟩ (.int .i64 0)).setCell ⟨w.heap.size, 2, none⟩ (.int .i64 0)) = w' at hfin hCf ⊢
    refine bodyPost_ret (v := .tuple #[.agg #[.int .i64 0, .int .i64 0, .int .i64 0], .bool false, .int .i64 (newErr most l)]) ?_ rfl ?_
    · exact results_cell3 rfl _ _ _ 34 _ (0, 0) _ _ _ rfl hfin Try.underlying34 rfl (by kernel_rfl) rfl rfl
    · exact hend.out _ hCf
  · rw [hs0.out] at hF
    obtain ⟨M, hM⟩ : ∃ M, most.toNat = M := ⟨_, rfl⟩
    rw [hM] at hMS
    have hend : ∀ w' (o : Option (Nat × Nat × Nat)), Chg [] w w' → firstOf M l b = o → FiEnd w most l b (.returned (match o with | some p => .tuple #[.agg #[.int .i64 p.1, .int .i64 p.2.1, .int .i64 p.2.2], .bool true, .int .i64 0] | none => .tuple #[.agg #[.int .i64 0, .int .i64 0, .int .i64 0], .bool false, .int .i64 0])) w' := fun w' o hc ho => ⟨hc, by
      rw [firstV, if_neg (by rw [he0]; simp), hM, ho]⟩
    replace hend := Lib.hid hend
    have hst := Lib.hid (mstart_any w1 F g l M [] hMS (fun x hx h1 => ((hgood.2 x hx).2.2 h1).1))
    replace hMS := Lib.hid hMS
    replace hF := Lib.hid hF
    clear z0 z1 z2 y0 y1 y2 he0 hM hgood
    go_wp2_with fail
    refine (hst.out).mono ?_
    rintro e w2 ⟨rfl, hC2⟩
    rw [hitV_eq]
    have hMS2 := hMS.out.chg hC2 (by simp)
    have hs2 := hC2.size
    have hb62 := hC2.heap hb61.out (by simp)
    obtain ⟨o0, ho0⟩ : ∃ o, hitOf M l [] = o := ⟨_, rfl⟩
    rw [ho0]
    replace hC2 := hC1.out.trans hC2
    clear hMS hst hb61
    have hCL := (Chg.refl [] w2).alloc (.cells #[.int .i64 (oi o0), .int .i64 (of_ o0), .int .i64 (on o0 0)] 34)
    have hbL := blk_new w2 (.cells #[.int .i64 (oi o0), .int .i64 (of_ o0), .int .i64 (on o0 0)] 34)
    have hb6L := hCL.heap hb62 (by simp)
    have hMSL := hMS2.chg hCL (by simp)
    have hFL : ∀ q, F q → w.heap.size < q ∧ q ≠ w2.heap.size := fun q hq => ⟨hF.out q hq, by
      have : q < w2.heap.size := by
        obtain ⟨x1, x2, x3, x4, x5, x6, x7, x8, x9, q1, q2, q3, q4, q5, q6, q7, q8⟩ := hMS2
        exact q7 q hq
      omega⟩
    replace hCL := hC2.trans hCL
    have hbe : ∃ bh, bh = w2.heap.size := ⟨_, rfl⟩
    obtain ⟨bh, hbe⟩ := hbe
    have hbw : w.heap.size < bh := by omega
    rw [← hbe] at hbL hFL
    replace hbL := Lib.hid hbL
    replace hb6L := Lib.hid hb6L
    replace hMSL := Lib.hid hMSL
    replace hFL := Lib.hid hFL
    replace hCL := Lib.hid hCL
    clear hMS2 hC2 hb62 hF
    go_wp2_with fail
    rw [← hbe]
    generalize w2.alloc (.cells #[.int .i64 (oi o0), .int .i64 (of_ o0), .int .i64 (on o0 0)] 34) = wL at hbL hb6L hMSL hCL ⊢
    replace hbe := Lib.hid hbe
    replace ho0 := Lib.hid ho0
    go_loopw [12, 32] (fun v12 v32 wr => ∃ (k : Nat) (o : Option (Nat × Nat)), v32 = .int .i64 k ∧ v12 = .bool o.isSome ∧ k ≤ b.length ∧ Hid (hitOf M l (b.take k) = o) ∧ Hid (∀ j, j < k → hitOf M l (b.take j) = none) ∧ Hid (∃ F : Nat → Prop, MS wr F g l M (b.take k) ∧ ∀ q, F q → w.heap.size < q ∧ q ≠ bh) ∧ Hid (Chg [] w wr) ∧
      Hid (wr.heap[bh]? = some (.cells #[.int .i64 (oi o), .int .i64 (of_ o), .int .i64 (on o k)] 34 (0, 0))) ∧ Hid (wr.heap[w.heap.size]? = some (.cells #[.int .i64 0, .int .i64 0, .int .i64 0] 34 (0, 0)))) (fun _ v32 _ => b.length - (intOf v32).toNat)
    case atStart => exact ⟨0, o0, rfl, rfl, by omega, Lib.hid (by rw [List.take_zero]; exact ho0.out), Lib.hid (fun j hj => by omega), Lib.hid ⟨F, by rw [List.take_zero]; exact hMSL.out, hFL.out⟩, hCL, hbL, hb6L⟩
    case round =>
      obtain ⟨k, o, rfl, rfl, hk, ho, hno, hMF, hC, hbh, hb6'⟩ := hrel
      clear hMSL hCL hbL hb6L
      have v0 : wr.cell? ⟨bh, 0, none⟩ = some (.int .i64 (oi o)) := by simp [World.cell?, hbh.out]
      have v1 : wr.cell? ⟨bh, 1, none⟩ = some (.int .i64 (of_ o)) := by simp [World.cell?, hbh.out]
      have v2 : wr.cell? ⟨bh, 2, none⟩ = some (.int .i64 (on o k)) := by simp [World.cell?, hbh.out]
      have z0 : wr.cell? ⟨w.heap.size, 0, none⟩ = some (.int .i64 0) := by simp [World.cell?, hb6'.out]
      have z1 : wr.cell? ⟨w.heap.size, 1, none⟩ = some (.int .i64 0) := by simp [World.cell?, hb6'.out]
      have z2 : wr.cell? ⟨w.heap.size, 2, none⟩ = some (.int .i64 0) := by simp [World.cell?, hb6'.out]
      have y0 : wr.frozen? ⟨w.heap.size, 0, none⟩ = false := by simp [World.frozen?, hb6'.out]
      have y1 : wr.frozen? ⟨w.heap.size, 1, none⟩ = false := by simp [World.frozen?, hb6'.out]
      have y2 : wr.frozen? ⟨w.heap.size, 2, none⟩ = false := by simp [World.frozen?, hb6'.out]
      by_cases hlt : k < b.length
      · obtain ⟨ad, rfl, hcell⟩ := sl_at (hB.out.chg hC.out (by simp)) (k := k) (u := .int .u8 (b[k]).toNat) (by simp [cellsOf, ns, hlt])
        have htk : b.take (k + 1) = b.take k ++ [b[k]] := List.take_succ_eq_append_getElem hlt
        generalize b[k] = cc at hcell htk
        cases o with
        | none =>
          obtain ⟨F2, hMS2, hF2⟩ := hMF.out
          have hfd := Lib.hid (mfeed_any wr F2 g l M (b.take k) cc hMS2 (by rw [List.length_take]; omega))
          rw [← htk] at hfd
          have hlen : (b.take (k + 1)).length = k + 1 := by rw [List.length_take]; omega
          have hno2 := Lib.hid (show ∀ j, j < k + 1 → hitOf M l (b.take j) = none from fun j hj => by
            rcases Nat.lt_or_ge j k with h | h
            · exact hno.out j h
            · obtain rfl : j = k := by omega
              exact ho.out)
          replace htk := Lib.hid htk
          replace hF2 := Lib.hid hF2
          replace hlen := Lib.hid hlen
          clear hMS2 hMF z0 z1 z2 y0 y1 y2 v0 v1 v2
          simp only [Option.isSome_none]
          go_wp2_with fail
          refine (hfd.out).mono ?_
          rintro e w5 ⟨rfl, F3, hMS3, hF3, S, hCS, hSF⟩
          rw [hitV_eq, hlen.out]
          have hbh5 := hCS.heap hbh.out (fun hm => (hF2.out _ (hSF _ hm)).2 rfl)
          have hb65 := hCS.heap hb6'.out (fun hm => by have := (hF2.out _ (hSF _ hm)).1; omega)
          have hC5 := hC.out.then hCS (fun q hq => .inr (by have := (hF2.out _ (hSF _ hq)).1; omega))
          have hbl := lt_heap hbh.out
          have hF4 : ∀ q, F3 q → w.heap.size < q ∧ q ≠ bh := fun q hq => by
            rcases hF3 q hq with h | h
            · exact hF2.out q h
            · exact ⟨by omega, by omega⟩
          obtain ⟨o5, ho5⟩ : ∃ o, hitOf M l (b.take (k + 1)) = o := ⟨_, rfl⟩
          rw [ho5]
          have v0 : w5.cell? ⟨bh, 0, none⟩ = some (.int .i64 (oi none)) := by simp [World.cell?, hbh5]
          have v1 : w5.cell? ⟨bh, 1, none⟩ = some (.int .i64 (of_ none)) := by simp [World.cell?, hbh5]
          have v2 : w5.cell? ⟨bh, 2, none⟩ = some (.int .i64 (on none k)) := by simp [World.cell?, hbh5]
          have y0 : w5.frozen? ⟨bh, 0, none⟩ = false := by simp [World.frozen?, hbh5]
          have y1 : w5.frozen? ⟨bh, 1, none⟩ = false := by simp [World.frozen?, hbh5]
          have y2 : w5.frozen? ⟨bh, 2, none⟩ = false := by simp [World.frozen?, hbh5]
          have hCs : Chg [bh] w5 (((w5.setCell ⟨bh, 0, none⟩ (.int .i64 (oi o5))).setCell ⟨bh, 1, none⟩ (.int .i64 (of_ o5))).setCell ⟨bh, 2, none⟩ (.int .i64 (on o5 (k + 1)))) := (((Chg.refl [bh] w5).setCell (.inl (by simp)) _).setCell (.inl (by simp)) _).setCell (.inl (by simp)) _
          have hnb := blk_set (blk_set (blk_set hbh5 0 (.int .i64 (oi o5))) 1 (.int .i64 (of_ o5))) 2 (.int .i64 (on o5 (k + 1)))
          have hMS6 := hMS3.chg hCs (by intro q hq hq'; simp at hq; subst hq; exact (hF4 _ hq').2 rfl)
          have hb66 := hCs.heap hb65 (by simp; omega)
          have hC6 := hC5.then hCs (fun q hq => .inr (by simp at hq; omega))
          replace hnb := Lib.hid hnb
          replace hMS6 := Lib.hid hMS6
          replace hb66 := Lib.hid hb66
          replace hC6 := Lib.hid hC6
          replace hF4 := Lib.hid hF4
          replace ho5 := Lib.hid ho5
          clear hMS3 hF3 hCS hSF hbh5 hb65 hC5 hfd hCs hbh hb6' hC
          go_wp2_with fail
          go_roundw
          case measure => simp [intOf]; omega
          case rel => exact ⟨k + 1, o5, by go_num, rfl, by omega, ho5, hno2, Lib.hid ⟨F3, hMS6.out, hF4.out⟩, hC6, Lib.hid (by simpa using hnb.out), hb66⟩
        | some p =>
          have hfh := Lib.hid (first_hit hk hno.out ho.out)
          simp only [Option.isSome_some]
          simp only [oi, of_, on] at v0 v1 v2
          replace htk := Lib.hid htk
          clear hno ho hMF
          go_wp2_with fail
          have hfin : (((wr.setCell ⟨w.heap.size, 0, none⟩ (.int .i64 (p.1 : Int))).setCell ⟨w.heap.size, 1, none⟩ (.int .i64 (p.2 : Int))).setCell ⟨w.heap.size, 2, none⟩ (.int .i64 (k : Int))).heap[w.heap.size]? = some (.cells #[.int .i64 (p.1 : Int), .int .i64 (p.2 : Int), .int .i64 (k : Int)] 34 (0, 0)) := by
            have := blk_set (blk_set (blk_set hb6'.out 0 (.int .i64 (p.1 : Int))) 1 (.int .i64 (p.2 : Int))) 2 (.int .i64 (k : Int))
            simpa using this
          have hCf : Chg [] w (((wr.setCell ⟨w.heap.size, 0, none⟩ (.int .i64 (p.1 : Int))).setCell ⟨w.heap.size, 1, none⟩ (.int .i64 (p.2 : Int))).setCell ⟨w.heap.size, 2, none⟩ (.int .i64 (k : Int))) := (((hC.out).setCell (.inr (Nat.le_refl _)) _).setCell (.inr (Nat.le_refl _)) _).setCell (.inr (Nat.le_refl _)) _
          generalize (((wr.setCell ⟨w.heap.size, 0, none⟩ (.int .i64 (p.1 : Int))).setCell ⟨w.heap.size, 1, none⟩ (.int .i64 (p.2 : Int))).setCell ⟨w.heap.size, 2, none⟩ (.int .i64 (k : Int))) = w' at hfin hCf ⊢
          refine bodyPost_ret (v := .tuple #[.agg #[.int .i64 (p.1 : Int), .int .i64 (p.2 : Int), .int .i64 (k : Int)], .bool true, .int .i64 0]) ?_ rfl ?_
          · exact results_cell3 rfl _ _ _ 34 _ (0, 0) _ _ _ rfl hfin Try.underlying34 rfl (by kernel_rfl) rfl rfl
          · exact hend.out _ _ hCf hfh.out
      · obtain rfl : k = b.length := by omega
        cases o with
        | none =>
          have hfh := Lib.hid (first_none (most := M) (l := l) (b := b) (fun j hj => by
            rcases Nat.lt_or_ge j b.length with h | h
            · exact hno.out j h
            · obtain rfl : j = b.length := by omega
              exact ho.out))
          simp only [Option.isSome_none]
          simp only [oi, of_, on] at v0 v1 v2
          clear hno ho hMF
          go_wp2_with fail
          have hfin : (((wr.setCell ⟨w.heap.size, 0, none⟩ (.int .i64 0)).setCell ⟨w.heap.size, 1, none⟩ (.int .i64 0)).setCell ⟨w.heap.size, 2, none⟩ (.int .i64 0)).heap[w.heap.size]? = some (.cells #[.int .i64 0, .int .i64 0, .int .i64 0] 34 (0, 0)) := by
            have := blk_set (blk_set (blk_set hb6'.out 0 (.int .i64 0)) 1 (.int .i64 0)) 2 (.int .i64 0)
            simpa using this
          have hCf : Chg [] w (((wr.setCell ⟨w.heap.size, 0, none⟩ (.int .i64 0)).setCell ⟨w.heap.size, 1, none⟩ (.int .i64 0)).setCell ⟨w.heap.size, 2, none⟩ (.int .i64 0)) := (((hC.out).setCell (.inr (Nat.le_refl _)) _).setCell (.inr (Nat.le_refl _)) _).setCell (.inr (Nat.le_refl _)) _
          generalize (((wr.setCell ⟨w.heap.size, 0, none⟩ (.int .i64 0)).setCell ⟨w.heap.size, 1, none⟩ (.int .i64 0)).setCell ⟨w.heap.size, 2, none⟩ (.int .i64 0)) = w' at hfin hCf ⊢
          refine bodyPost_ret (v := .tuple #[.agg #[.int .i64 0, .int .i64 0, .int .i64 0], .bool false, .int .i64 0]) ?_ rfl ?_
          · exact results_cell3 rfl _ _ _ 34 _ (0, 0) _ _ _ rfl hfin Try.underlying34 rfl (by kernel_rfl) rfl rfl
          · exact hend.out _ _ hCf hfh.out
        | some p =>
          have hfh := Lib.hid (first_hit hk hno.out ho.out)
          simp only [Option.isSome_some]
          simp only [oi, of_, on] at v0 v1 v2
          clear hno ho hMF
          go_wp2_with fail
          have hfin : (((wr.setCell ⟨w.heap.size, 0, none⟩ (.int .i64 (p.1 : Int))).setCell ⟨w.heap.size, 1, none⟩ (.int .i64 (p.2 : Int))).setCell ⟨w.heap.size, 2, none⟩ (.int .i64 (b.length : Int))).heap[w.heap.size]? = some (.cells #[.int .i64 (p.1 : Int), .int .i64 (p.2 : Int), .int .i64 (b.length : Int)] 34 (0, 0)) := by
            have := blk_set (blk_set (blk_set hb6'.out 0 (.int .i64 (p.1 : Int))) 1 (.int .i64 (p.2 : Int))) 2 (.int .i64 (b.length : Int))
            simpa using this
          have hCf : Chg [] w (((wr.setCell ⟨w.heap.size, 0, none⟩ (.int .i64 (p.1 : Int))).setCell ⟨w.heap.size, 1, none⟩ (.int .i64 (p.2 : Int))).setCell ⟨w.heap.size, 2, none⟩ (.int .i64 (b.length : Int))) := (((hC.out).setCell (.inr (Nat.le_refl _)) _).setCell (.inr (Nat.le_refl _)) _).setCell (.inr (Nat.le_refl _)) _
          generalize (((wr.setCell ⟨w.heap.size, 0, none⟩ (.int .i64 (p.1 : Int))).setCell ⟨w.heap.size, 1, none⟩ (.int .i64 (p.2 : Int))).setCell ⟨w.heap.size, 2, none⟩ (.int .i64 (b.length : Int))) = w' at hfin hCf ⊢
          refine bodyPost_ret (v := .tuple #[.agg #[.int .i64 (p.1 : Int), .int .i64 (p.2 : Int), .int .i64 (b.length : Int)], .bool true, .int .i64 0]) ?_ rfl ?_
          · exact results_cell3 rfl _ _ _ 34 _ (0, 0) _ _ _ rfl hfin Try.underlying34 rfl (by kernel_rfl) rfl rfl
          · exact hend.out _ _ hCf hfh.out
end Mt
end Go.Proofs.Ytojgdmpnbgikeaa
