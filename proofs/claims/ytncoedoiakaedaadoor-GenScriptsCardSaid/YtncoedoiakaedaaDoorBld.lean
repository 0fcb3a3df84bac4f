/- A strings.Builder that lies in a block of its own: its methods. Conditions: as they state. -/
import Derived.Test.YtncoedoiakaedaaDoorTclFlush
import Derived.Test.YtncoedoiakaedaaDoorBag
import Derived.Lib.Builder
import Derived.Lib.AppendStr
import Derived.Lib.UnsafeStr
import Derived.Shelf.RegionOpenPlain
set_option linter.unusedVariables false
set_option linter.unusedSimpArgs false
namespace Go.Proofs.YtncoedoiakaedaaDoor
open Go.RowKit Tcl
namespace Bl
/-- A builder at `g`: its buffer is `v`. -/
structure Bd (w : World) (g : Nat) (p v : Value) (bs : List UInt8) : Prop where
  H : w.heap[g]? = some (.cells #[p, v] 77 (0, 0))
  O : w.ownsRow (g + 1) 5 1 v bs.length (cellsOf .u8 (nums bs))
def Pt (g : Nat) (p : Value) : Prop := p = .pointer none ∨ p = .pointer (some ⟨g, 0, none⟩)
theorem Bd.chg {S : List Nat} {w w' : World} {g : Nat} {p v : Value} {bs : List UInt8} (h : Bd w g p v bs) (hc : Chg S w w') (hg : g ∉ S) (hv : ∀ k, v.ownBlock = some k → k ∉ S) : Bd w' g p v bs :=
  ⟨hc.heap h.H hg, own_chg h.O hc (fun k hk => hv k hk)⟩
theorem Bd.init (w : World) : Bd (w.alloc (.cells #[.pointer none, .slice none 0 0] 77)) w.heap.size (.pointer none) (.slice none 0 0) [] :=
  ⟨blk_new _ _, World.ownsRow_nil _ _ _ _⟩
theorem Bd.slice {w : World} {g : Nat} {p v : Value} {bs : List UInt8} (h : Bd w g p v bs) : ∃ A c, v = .slice A bs.length c := by
  rcases h.O.2 with ⟨hv, h0⟩ | ⟨q, cap, cur, hv, _⟩
  · exact ⟨none, 0, by rw [hv, h0]⟩
  · exact ⟨_, _, hv⟩
theorem Bd.lt {w : World} {g : Nat} {p v : Value} {bs : List UInt8} (h : Bd w g p v bs) : ∀ k, v.ownBlock = some k → g < k ∧ k < w.heap.size := fun k hk => by
  have := Tl.own_lt' h.O k hk
  omega
set_option maxRecDepth 100000 in
set_option maxHeartbeats 4000000 in
theorem copyCheck_used (w : World) (g : Nat) (h0 : w.cell? ⟨g, 0, none⟩ = some (.pointer (some ⟨g, 0, none⟩))) :
    Calls Tryd.prog 41 #[.pointer (some ⟨g, 0, none⟩)] w fun e w' => e = .returned (.tuple #[]) ∧ w' = w := by
  obtain ⟨j, hj⟩ : ∃ j, Tryd.prog.info? 77 = some j := by
    cases h : Tryd.prog.info? 77 with
    | some j => exact ⟨j, rfl⟩
    | none => have : (Tryd.prog.info? 77).isSome = true := by kernel_rfl
              rw [h] at this; cases this
  go_enter Tryd.func41, Tryd.ntmps41
  go_wp2_with fail
  rw [Lib.run_neq_ptr_same w _ Tryd.underlying75 hj]
  go_wp2_with fail
  go_end0
  exact ⟨rfl, rfl⟩
set_option maxRecDepth 100000 in
set_option maxHeartbeats 4000000 in
theorem copyCheck_fresh (w : World) (g : Nat) (v : Value) (h : w.heap[g]? = some (.cells #[.pointer none, v] 77 (0, 0))) :
    Calls Tryd.prog 41 #[.pointer (some ⟨g, 0, none⟩)] w fun e w' => e = .returned (.tuple #[]) ∧ w' = w.setCell ⟨g, 0, none⟩ (.pointer (some ⟨g, 0, none⟩)) := by
  have h0 : w.cell? ⟨g, 0, none⟩ = some (.pointer none) := by simp [World.cell?, h]
  have hfz : w.frozen? ⟨g, 0, none⟩ = false := by simp [World.frozen?, h]
  have hsh : w.shape? g = some (77, 2) := by simp [World.shape?, h]
  replace h := Lib.hid h
  obtain ⟨j, hj, hjs⟩ : ∃ j, Tryd.prog.info? 77 = some j ∧ j.size = 2 := by
    have : (Tryd.prog.info? 77).map (·.size) = some 2 := by kernel_rfl
    obtain ⟨j, hj, hs⟩ := Option.map_eq_some_iff.1 this
    exact ⟨j, hj, hs⟩
  go_enter Tryd.func41, Tryd.ntmps41
  go_wp2_with fail
  rw [Lib.run_to_unsafe w ⟨g, 0, none⟩ Tryd.underlying75 Tryd.underlying132 hj (by rw [hjs]; decide) hsh (Nat.zero_lt_succ 1)]
  simp only [Result.andThen]
  rw [Oper.upon_value]
  go_wp2_with fail
  rw [run_callFunc_extern Tryd.func57 (by kernel_rfl) (by kernel_rfl) (by kernel_rfl) (e := Extern.AbiNoEscape.same) (by kernel_rfl)]
  rw [Lib.run_noEscape]
  simp only [Result.andThen]
  rw [Oper.upon_value]
  go_wp2_with fail
  rw [Lib.run_from_unsafe w ⟨g, 0, none⟩ Tryd.underlying132 Tryd.underlying75 hj hsh (by kernel_rfl)]
  simp only [Result.andThen]
  rw [Oper.upon_value]
  go_wp2_with fail
  go_end0
  exact ⟨rfl, rfl⟩
theorem copyCheck_bd (w : World) (g : Nat) (p v : Value) (bs : List UInt8) (hp : Pt g p) (h : Bd w g p v bs) :
    Calls Tryd.prog 41 #[.pointer (some ⟨g, 0, none⟩)] w fun e w' => e = .returned (.tuple #[]) ∧ Bd w' g (.pointer (some ⟨g, 0, none⟩)) v bs ∧ Chg [g] w w' := by
  rcases hp with rfl | rfl
  · refine (copyCheck_fresh w g v h.H).mono ?_
    rintro e w' ⟨rfl, rfl⟩
    have hSt : Chg [g] w (w.setCell ⟨g, 0, none⟩ (.pointer (some ⟨g, 0, none⟩))) := (Chg.refl [g] w).setCell (.inl (by simp)) _
    exact ⟨rfl, ⟨by simpa using blk_set h.H 0 (.pointer (some ⟨g, 0, none⟩)), own_chg h.O hSt (fun q hq hm => by have := h.lt q hq; simp at hm; omega)⟩, hSt⟩
  · refine (copyCheck_used w g (by have := h.H; simp [World.cell?, this])).mono ?_
    rintro e w' ⟨rfl, rfl⟩
    exact ⟨rfl, h, Chg.refl _ _⟩
/-- A new buffer is laid into the builder. -/
theorem Bd.put {w w' : World} {g : Nat} {p v v' : Value} {bs bs' : List UInt8} (h : Bd w g p v bs) (hc : Chg v.ownBlock.toList w w') (hO : w'.ownsRow (g + 1) 5 1 v' bs'.length (cellsOf .u8 (nums bs'))) :
    (w'.cell? ⟨g, 1, none⟩ = some v ∧ w'.frozen? ⟨g, 1, none⟩ = false) ∧ Bd (w'.setCell ⟨g, 1, none⟩ v') g p v' bs' ∧ Chg (g :: v.ownBlock.toList) w (w'.setCell ⟨g, 1, none⟩ v') := by
  have hb := hc.heap h.H (fun hm => by have := h.lt g (by simpa using hm); omega)
  have hSt : Chg [g] w' (w'.setCell ⟨g, 1, none⟩ v') := (Chg.refl [g] w').setCell (.inl (by simp)) _
  refine ⟨⟨by simp [World.cell?, hb], by simp [World.frozen?, hb]⟩, ⟨by simpa using blk_set hb 1 v', own_chg hO hSt (fun q hq hm => by have := Tl.own_lt' hO q hq; simp at hm; omega)⟩, ?_⟩
  exact (hc.mono (fun x hx => .inl (List.mem_cons_of_mem _ hx))).then hSt (fun q hq => .inl (by simp at hq; simp [hq]))
theorem Tryd.info_u8b : ∃ i, Tryd.prog.info? 5 = some i ∧ i.zero = some (.int .u8 0) ∧ i.size = 1 ∧ i.bytes = 1 := by
  have h : (Tryd.prog.info? 5).map (fun i => (i.zero, i.size, i.bytes)) = some (some (.int .u8 0), 1, 1) := by kernel_rfl
  obtain ⟨i, hi, hs⟩ := Option.map_eq_some_iff.1 h
  simp only [Prod.mk.injEq] at hs
  exact ⟨i, hi, hs.1, hs.2.1, hs.2.2⟩
theorem append_string_at {P : Program} (w : World) (base : Nat) (t u ty e : TypeId) (i : TypeInfo) (ht : P.underlying t = some (.slice e)) (hu : P.underlying u = some .string) (hi : P.info? e = some i) (hz : i.zero = some (.int .u8 0)) (hsize : i.size = 1) (hby : i.bytes = 1)
    (v : Value) (n : Nat) (xs : List Value) (hown : w.ownsRow base e 1 v n xs) (s : ByteArray) (hbytes : n + s.size ≤ 140737488355328) (hbase : base ≤ w.heap.size) :
    ∃ v' w', (Builtin.append_ #[t, u] ty #[v, .string s]).run P w = .ok v' w' ∧ w'.ownsRow base e 1 v' (n + s.size) (xs ++ Lib.strCells s) ∧ w.grownBy w' v.ownBlock ∧ (v'.ownBlock = v.ownBlock ∨ ∀ q, v'.ownBlock = some q → w.heap.size ≤ q) := by
  obtain ⟨v', w', hr, h2, h3, -⟩ := Lib.run_append_own_string (P := P) w base t u ty e i ht hu hi hz hsize hby v n xs hown s (by unfold maxLen; omega) hbytes hbase
  refine ⟨v', w', hr, h2, h3, ?_⟩
  rcases id hown.2 with ⟨rfl, rfl⟩ | ⟨g, cap, cur, rfl, hbg, hg, hnc, hcm, hcs, htake⟩
  · obtain rfl : xs = [] := List.eq_nil_of_length_eq_zero (by have := hown.1; omega)
    obtain ⟨v2, w2, hr2, k2, -⟩ := Lib.run_append_own_string (P := P) w w.heap.size t u ty e i ht hu hi hz hsize hby _ 0 [] (World.ownsRow_nil _ _ _ _) s (by unfold maxLen; omega) hbytes (Nat.le_refl _)
    rw [hr] at hr2
    cases hr2
    exact .inr (fun q hq => (Tl.own_lt' k2 q hq).1)
  · have hxl : xs.length = n := by simpa using hown.1
    by_cases hroom : n + s.size ≤ cap
    · have hr2 := Lib.run_append_room_string (P := P) w t u ty e i ht hu hi hsize g n cap cur hg s hroom (by omega)
      rw [hr] at hr2
      cases hr2
      exact .inl rfl
    · have holds : ∀ j u, xs[j]? = some u → w.cell? ((⟨g, 0, none⟩ : Addr).add j) = some u := hown.cells (g := g) rfl
      have hr2 := Lib.run_append_grow_string (P := P) w t u ty e i (.int .u8 0) ht hu hi hz ⟨g, 0, none⟩ n cap xs (by rw [hsize]; simpa using hxl) holds s (by omega) (by omega) (by rw [hby]; exact growslice_fits (by omega) (by omega))
      rw [hr] at hr2
      cases hr2
      exact .inr (fun q hq => by simp [Value.ownBlock] at hq; omega)
theorem wpList_append_string_at {P : Program} {w : World} {ops : Array Oper} {rest : List Oper} {o : Oper} {a : Act} {Q : Exit → Act → World → Prop} (hgd : o.guard = none) (sl x : Operand) (t u : TypeId)
    (ho : o.op = .call { callee := .builtin .append, args := #[sl, x], argTypes := #[t, u] })
    (base : Nat) (e : TypeId) (i : TypeInfo) (ht : P.underlying t = some (.slice e)) (hu : P.underlying u = some .string) (hi : P.info? e = some i) (hz : i.zero = some (.int .u8 0)) (hsize : i.size = 1) (hby : i.bytes = 1)
    (v : Value) (n : Nat) (xs : List Value) (hs : a.eval sl = v) (hown : w.ownsRow base e 1 v n xs) (s : ByteArray) (hx : a.eval x = .string s) (hbytes : n + s.size ≤ 140737488355328) (hbase : base ≤ w.heap.size)
    (h : ∀ v' w', w'.ownsRow base e 1 v' (n + s.size) (xs ++ Lib.strCells s) → w.grownBy w' v.ownBlock → (v'.ownBlock = v.ownBlock ∨ ∀ q, v'.ownBlock = some q → w.heap.size ≤ q) → wpList P ops Q rest (a.put o.dst v') w') : wpList P ops Q (o :: rest) a w := by
  refine wpList_plain hgd fun K hK => ?_
  obtain ⟨v', w', hr, h2, h3, h4⟩ := append_string_at (P := P) w base t u o.type e i ht hu hi hz hsize hby v n xs hown s hbytes hbase
  unfold Oper.wp execOp
  simp only [ho, resolve, invoke, builtin, Sem.run_bind, Sem.run_pure, Result.andThen_ok, List.map_toArray, List.map_cons, List.map_nil, hs, hx, hr]
  exact hK _ _ (h v' w' h2 h3 h4)
/-- What a write leaves: the builder with more, its buffer the elder one's block or a new one; nothing else has turned. -/
def Wrote (w w' : World) (g : Nat) (v : Value) (bs : List UInt8) : Prop := ∃ v', Bd w' g (.pointer (some ⟨g, 0, none⟩)) v' bs ∧ (v'.ownBlock = v.ownBlock ∨ ∀ q, v'.ownBlock = some q → w.heap.size ≤ q) ∧ Chg (g :: v.ownBlock.toList) w w'
set_option maxRecDepth 100000 in
set_option maxHeartbeats 4000000 in
theorem writeByte_bd (w : World) (g : Nat) (p v : Value) (bs : List UInt8) (c : UInt8) (hp : Pt g p) (h : Bd w g p v bs) (hlen : bs.length ≤ 70368744177664) :
    Calls Tryd.prog 42 #[.pointer (some ⟨g, 0, none⟩), .int .u8 c.toNat] w fun e w' => e = .returned .nilIface ∧ Wrote w w' g v (bs ++ [c]) := by
  have hcc := Lib.hid (copyCheck_bd w g p v bs hp h)
  obtain ⟨i0, hi, hz0, hz1, hz2⟩ := Tryd.info_u8b
  go_enter Tryd.func42, Tryd.ntmps42
  go_wp2_with fail
  refine (hcc.out).mono ?_
  rintro e w1 ⟨rfl, hB, hK⟩
  obtain ⟨A, cp, rfl⟩ := hB.slice
  have c1 : w1.cell? ⟨g, 1, none⟩ = some (.slice A bs.length cp) := by have := hB.H; simp [World.cell?, this]
  have hb1 : g + 1 ≤ w1.heap.size := by have := lt_heap hB.H; omega
  replace hB := Lib.hid hB
  replace hK := Lib.hid hK
  clear h hcc hp
  go_wp2_with (at_builtin; refine wpList_append_sl rfl (.tmp 11) (.tmp 13) 35 rfl (g + 1) 5 (.int .u8 0) 1 1 Tryd.underlying35 (by kernel_rfl) rfl (by decide) (.slice A bs.length cp) bs.length (cellsOf .u8 (nums bs)) rfl (hB.out.O.alloc _) _ 1 [.int .u8 c.toNat] rfl (sl_new w1 _ 5 1 rfl (by decide)) (by intro u hu; simp at hu; subst hu; rfl) (bs.length + 1) rfl (by omega) (by decide) (by have h2 : (w1.alloc (.cells #[.int .u8 c.toNat] 5)).heap.size = w1.heap.size + 1 := Array.size_push ..; omega) ?_)
  intro A' c' w2 hO' hCh hat
  have e1 : cellsOf .u8 (nums bs) ++ [.int .u8 c.toNat] = cellsOf .u8 (nums (bs ++ [c])) := by rw [nums_append, cellsOf_append]; rfl
  rw [e1] at hO'
  have hC2 := ((Chg.refl (Value.slice A bs.length cp).ownBlock.toList w1).alloc (.cells #[.int .u8 c.toNat] 5)).trans hCh
  obtain ⟨⟨p1, p2⟩, hB2, hK2⟩ := hB.out.put (bs' := bs ++ [c]) hC2 (by rw [List.length_append]; exact hO')
  replace hat : Hid ((Value.slice A' (bs.length + 1) c').ownBlock = (Value.slice A bs.length cp).ownBlock ∨ ∀ q, (Value.slice A' (bs.length + 1) c').ownBlock = some q → w.heap.size ≤ q) := Lib.hid (hat.imp id (fun h q hq => by have h1 := h q hq; have := hK.out.size; omega))
  replace hB2 := Lib.hid hB2
  replace hK2 := Lib.hid ((hK.out.mono (fun x hx => .inl (by simp at hx; simp [hx]))).trans hK2)
  clear hO' hCh hC2 e1 c1
  go_wp2_with fail
  go_ret
  exact ⟨rfl, _, hB2.out, hat.out, hK2.out⟩
set_option maxRecDepth 100000 in
set_option maxHeartbeats 4000000 in
theorem writeString_bd (w : World) (g : Nat) (p v : Value) (bs s : List UInt8) (hp : Pt g p) (h : Bd w g p v bs) (hlen : bs.length + s.length ≤ 70368744177664) :
    Calls Tryd.prog 25 #[.pointer (some ⟨g, 0, none⟩), .string (bstr s)] w fun e w' => (∃ n : Int, e = .returned (.tuple #[.int .i64 n, .nilIface])) ∧ Wrote w w' g v (bs ++ s) := by
  have hcc := Lib.hid (copyCheck_bd w g p v bs hp h)
  obtain ⟨i0, hi, hz0, hz1, hz2⟩ := Tryd.info_u8b
  have hsz : (bstr s).size = s.length := rfl
  have hcl : Lib.strCells (bstr s) = cellsOf .u8 (nums s) := by unfold Lib.strCells cellsOf nums; rw [List.map_map]; rfl
  obtain ⟨B, hBs⟩ : ∃ B, bstr s = B := ⟨_, rfl⟩
  rw [hBs] at hsz hcl ⊢
  replace hsz := Lib.hid hsz
  replace hcl := Lib.hid hcl
  clear hBs
  go_enter Tryd.func25, Tryd.ntmps25
  go_wp2_with fail
  refine (hcc.out).mono ?_
  rintro e w1 ⟨rfl, hB, hK⟩
  obtain ⟨A, cp, rfl⟩ := hB.slice
  have c1 : w1.cell? ⟨g, 1, none⟩ = some (.slice A bs.length cp) := by have := hB.H; simp [World.cell?, this]
  have hb1 : g + 1 ≤ w1.heap.size := by have := lt_heap hB.H; omega
  replace hB := Lib.hid hB
  replace hK := Lib.hid hK
  clear h hcc hp
  go_wp2_with (at_builtin; refine wpList_append_string_at rfl (.tmp 12) (.tmp 13) 35 9 rfl (g + 1) 5 i0 Tryd.underlying35 Tryd.underlying9 hi hz0 hz1 hz2 (.slice A bs.length cp) bs.length (cellsOf .u8 (nums bs)) rfl hB.out.O B rfl (by have := hsz.out; omega) hb1 ?_)
  intro v' w2 hO' hgr hat
  have e1 : cellsOf .u8 (nums bs) ++ Lib.strCells B = cellsOf .u8 (nums (bs ++ s)) := by rw [hcl.out, nums_append, cellsOf_append]
  rw [e1] at hO'
  obtain ⟨⟨p1, p2⟩, hB2, hK2⟩ := hB.out.put (bs' := bs ++ s) (Chg.of_grown hgr) (by rw [List.length_append, ← hsz.out]; exact hO')
  obtain ⟨A', n', c', rfl⟩ : ∃ A' n' c', v' = .slice A' n' c' := by
    obtain ⟨A', c', h⟩ := hB2.slice
    exact ⟨A', _, c', h⟩
  replace hat := Lib.hid (hat.imp id (fun hh => show ∀ q, (Value.slice A' n' c').ownBlock = some q → w.heap.size ≤ q from fun q hq => by have := hh q hq; have := hK.out.size; omega))
  replace hB2 := Lib.hid hB2
  replace hK2 := Lib.hid ((hK.out.mono (fun x hx => .inl (by simp at hx; simp [hx]))).trans hK2)
  clear hO' hgr e1 c1
  go_wp2_with fail
  go_ret2
  exact ⟨⟨_, rfl⟩, _, hB2.out, hat.out, hK2.out⟩
theorem chg_freeze {L : List Nat} {a w : World} (h : Chg L a w) {p : Addr} (hp : p.block ∈ L) (n : Nat) : Chg L a (w.freeze p n) := by
  refine h.trans ?_
  unfold World.freeze
  split
  · exact Chg.refl L w
  · exact ⟨rfl, rfl, rfl, by simp, fun k hk hn => by
      simp only [Array.getElem?_modify]
      rw [if_neg (fun (e : p.block = k) => hn (by rw [← e]; exact hp))]⟩
set_option maxRecDepth 100000 in
set_option maxHeartbeats 4000000 in
theorem string_bd (w : World) (g : Nat) (p v : Value) (bs : List UInt8) (h : Bd w g p v bs) :
    Calls Tryd.prog 28 #[.pointer (some ⟨g, 0, none⟩)] w fun e w' => e = .returned (.string (bstr bs)) ∧ Chg v.ownBlock.toList w w' := by
  have mixed : Tryd.prog.follows Departure.mixedOrders = true := by kernel_rfl
  obtain ⟨L, hL⟩ : ∃ L, v.ownBlock.toList = L := ⟨_, rfl⟩
  rw [hL]
  have hCw : Chg L w w := Chg.refl _ _
  by_cases h0 : bs = []
  · subst h0
    have hUS : ∀ (W : World) (q : Option Addr), (Builtin.unsafeString_ #[111, 3] 9 #[.pointer q, .int .i64 0]).run Tryd.prog W = .ok (.string .empty) W := fun W q => Lib.run_unsafeString_none W _ _ _ q
    rcases h.O.2 with ⟨rfl, _⟩ | ⟨q, cap, cur, rfl, hq, hg, hc1, hc2, hc3, _⟩
    · have c1 : w.drew.cell? ⟨g, 1, none⟩ = some (.slice none 0 0) := by have := h.H; show w.cell? _ = _; simp [World.cell?, this]
      have hSD : (Builtin.unsafeSliceData_ #[35] 111 #[.slice none 0 0]).run Tryd.prog w.drew = .ok (.pointer none) w.drew := rfl
      have hCw2 : Hid (Chg L w w.drew) := Lib.hid hCw.drew
      clear h
      go_enter Tryd.func28, Tryd.ntmps28
      go_wp2_with fail
      go_region_o
      all_goals (go_wp2; go_ret; exact ⟨rfl, hCw2.out⟩)
    · by_cases hc0 : cap = 0
      · subst hc0
        have hb := h.H
        have hbq : ∀ k, k < w.heap.size → (w.drew.alloc (.view ⟨q, 0, none⟩ 5)).heap[k]? = w.heap[k]? := fun k hk => Lib.alloc_old w.drew _ k hk
        have c1 : w.drew.cell? ⟨g, 1, none⟩ = some (.slice (some ⟨q, 0, none⟩) 0 0) := by show w.cell? _ = _; simp [World.cell?, hb]
        have c0 : w.cell? ⟨g, 1, none⟩ = some (.slice (some ⟨q, 0, none⟩) 0 0) := c1
        have c2 : (w.drew.alloc (.view ⟨q, 0, none⟩ 5)).cell? ⟨g, 1, none⟩ = some (.slice (some ⟨q, 0, none⟩) 0 0) := by
          have : (w.drew.alloc (.view ⟨q, 0, none⟩ 5)).heap[g]? = _ := (hbq g (lt_heap hb)).trans hb
          simp [World.cell?, this]
        have c3 : (w.alloc (.view ⟨q, 0, none⟩ 5)).drew.cell? ⟨g, 1, none⟩ = some (.slice (some ⟨q, 0, none⟩) 0 0) := c2
        have hSD : (Builtin.unsafeSliceData_ #[35] 111 #[.slice (some ⟨q, 0, none⟩) 0 0]).run Tryd.prog w.drew = .ok (.pointer (some ⟨w.heap.size, 0, none⟩)) (w.drew.alloc (.view ⟨q, 0, none⟩ 5)) := by
          exact Lib.run_unsafeSliceData_zero (P := Tryd.prog) w.drew #[35] 111 5 Tryd.underlying111 ⟨q, 0, none⟩ 0 (5, cur.size) (by show w.shape? q = _; simp [World.shape?, hg])
        have hCw2 := Lib.hid (hCw.drew.alloc (.view ⟨q, 0, none⟩ 5))
        clear h hb hbq hg
        go_enter Tryd.func28, Tryd.ntmps28
        go_wp2_with fail
        go_region_o
        all_goals (go_wp2; go_ret; exact ⟨rfl, hCw2.out⟩)
      · have c1 : w.drew.cell? ⟨g, 1, none⟩ = some (.slice (some ⟨q, 0, none⟩) 0 cap) := by have := h.H; show w.cell? _ = _; simp [World.cell?, this]
        have hSD : (Builtin.unsafeSliceData_ #[35] 111 #[.slice (some ⟨q, 0, none⟩) 0 cap]).run Tryd.prog w.drew = .ok (.pointer (some ⟨q, 0, none⟩)) w.drew := Lib.run_unsafeSliceData_row _ _ _ _ _ _ hc0
        have hCw2 : Hid (Chg L w w.drew) := Lib.hid hCw.drew
        clear h hc0 hg hc1 hc2 hc3
        go_enter Tryd.func28, Tryd.ntmps28
        go_wp2_with fail
        go_region_o
        all_goals (go_wp2; go_ret; exact ⟨rfl, hCw2.out⟩)
  · have hl0 : bs.length ≠ 0 := by simpa using h0
    obtain ⟨q, cap, cur, rfl, hq, hg, hnc, hcm, hcs, htake⟩ : ∃ q cap cur, v = .slice (some ⟨q, 0, none⟩) bs.length cap ∧ g + 1 ≤ q ∧ w.heap[q]? = some (.cells cur 5 (0, 0)) ∧ bs.length ≤ cap ∧ cap ≤ maxLen ∧ cur.size = cap * 1 ∧ cur.toList.take (bs.length * 1) = cellsOf .u8 (nums bs) := by
      rcases h.O.2 with ⟨_, hz⟩ | ⟨q, cap, cur, hv, r⟩
      · exact absurd hz hl0
      · exact ⟨q, cap, cur, hv, r⟩
    have c1 : w.drew.cell? ⟨g, 1, none⟩ = some (.slice (some ⟨q, 0, none⟩) bs.length cap) := by have := h.H; show w.cell? _ = _; simp [World.cell?, this]
    have hSD : (Builtin.unsafeSliceData_ #[35] 111 #[.slice (some ⟨q, 0, none⟩) bs.length cap]).run Tryd.prog w.drew = .ok (.pointer (some ⟨q, 0, none⟩)) w.drew := Lib.run_unsafeSliceData_row _ _ _ _ _ _ (by omega)
    have hUS : (Builtin.unsafeString_ #[111, 3] 9 #[.pointer (some ⟨q, 0, none⟩), .int .i64 bs.length]).run Tryd.prog w.drew = .ok (.string (bstr bs)) (w.drew.freeze ⟨q, 0, none⟩ bs.length) := by
      refine Lib.run_unsafeString_row w.drew 111 3 9 5 Tryd.underlying111 (by kernel_rfl) q cur.size (by show w.shape? q = _; simp [World.shape?, hg]) bs h0 (by omega) (by unfold maxLen at hcm; omega) ?_
      intro j x hx
      exact h.O.cells (g := q) rfl j (.int .u8 x.toNat) (by simp [cellsOf, nums, hx])
    have hCw2 : Hid (Chg L w (w.drew.freeze ⟨q, 0, none⟩ bs.length)) := Lib.hid (chg_freeze hCw.drew (p := ⟨q, 0, none⟩) (by rw [← hL]; simp [Value.ownBlock]) _)
    clear h hg hnc hcm hcs htake hl0
    go_enter Tryd.func28, Tryd.ntmps28
    go_wp2_with fail
    go_region_o
    all_goals (go_wp2; go_ret; exact ⟨rfl, hCw2.out⟩)
end Bl
end Go.Proofs.YtncoedoiakaedaaDoor
