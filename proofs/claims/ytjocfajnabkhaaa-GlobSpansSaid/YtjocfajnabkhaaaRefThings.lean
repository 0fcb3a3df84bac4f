/- Contract of the reference of layer 13: Things. Conditions: as it states. -/
import Derived.Test.YtjocfajnabkhaaaRef
import Derived.Test.YtjocfajnabkhaaaThings
import Derived.Deep.Cut
set_option linter.unusedVariables false
set_option linter.unusedSimpArgs false
namespace Go.Proofs.Ytjocfajnabkhaaa
open Go.RowKit Glob
theorem fold_set (l : List Value) : ∀ (k : Nat) (acc : Array Value), k + l.length ≤ acc.size → (l.zipIdx k).foldl (fun cs (p : Value × Nat) => cs.setIfInBounds p.2 p.1) acc = (acc.toList.take k ++ l ++ acc.toList.drop (k + l.length)).toArray := by
  induction l with
  | nil => intro k acc h; simp
  | cons v l ih =>
    intro k acc h
    simp only [List.length_cons] at h
    rw [List.zipIdx_cons, List.foldl_cons, ih (k + 1) _ (by simp; omega)]
    apply Array.ext'
    simp only [Array.toList_setIfInBounds, List.toList_toArray, List.length_cons]
    have hk : k < acc.toList.length := by simp; omega
    have e1 : (acc.toList.set k v).take (k + 1) = acc.toList.take k ++ [v] := by
      rw [List.take_add_one, List.getElem?_set_self hk, List.take_set_of_le (Nat.le_refl _)]; rfl
    rw [e1, List.drop_set_of_lt (by omega), show k + 1 + l.length = k + (l.length + 1) by omega]
    simp
theorem fill_whole (row : List Value) (zero : Array Value) (hz : zero.size = row.length) : Instr.fill (fun i => some (i * row.length, row.length)) zero [(0, .agg row.toArray)] = some row.toArray := by
  have hf := fold_set row 0 zero (by omega)
  simp [Instr.fill, Value.cells, hz]
  rw [hf, List.take_zero, List.nil_append, List.drop_eq_nil_of_le (by simp; omega), List.append_nil]
theorem run_build_one {P : Program} (t e : TypeId) (ht : P.underlying t = some (.slice e)) (i : TypeInfo) (hi : P.info? e = some i) (z : Value) (hz : i.zero = some z) (row : List Value) (hr : row.length = i.size) (h0 : 0 < i.size) (hm : i.size ≤ 2 ^ 24) (w : World) :
    (Instr.buildSlice t 1 #[(0, .agg row.toArray)]).run P w = .ok (.slice (some ⟨w.heap.size, 0, none⟩) 1 1) (w.alloc (.cells row.toArray e)) := by
  have hfw := fill_whole row ((Array.range (1 * i.size)).map (z.cells[· % z.cells.size]!)) (by simp [hr])
  unfold Instr.buildSlice
  simp [run_underlying ht, sizeOf, typeInfo, hi, hz, zeroValue, Result.andThen, show ¬ (2 ^ 24 < i.size) by omega, show i.size ≠ 0 by omega]
  rw [hr, Nat.one_mul] at hfw
  rw [hfw]
  simp [newRow, newObj, Result.andThen]
  rfl
theorem sl_wide_new (w : World) (row : List Value) (e : TypeId) (size : Nat) (hn : row.length = size) : Sl (w.alloc (.cells row.toArray e)) size (.slice (some ⟨w.heap.size, 0, none⟩) 1 1) 1 row := by
  refine ⟨_, 1, rfl, by simp, Nat.le_refl _, by decide, by omega, fun _ => ⟨_, rfl, fun j u hu => ?_⟩⟩
  have ha : (⟨w.heap.size, 0, none⟩ : Addr).add j = ⟨w.heap.size, j, none⟩ := by unfold Addr.add; split <;> simp_all
  rw [ha]
  simp only [World.cell?, blk_new]
  simpa using hu
/-- `append(s, x)` of one wide element onto an owned row. -/
theorem wpList_one_more {P : Program} {ops : Array Oper} {rest : List Oper} {o1 o2 : Oper} {a : Act} {w : World} {Q : Exit → Act → World → Prop} (hg1 : o1.guard = none) (hg2 : o2.guard = none)
    (t e : TypeId) (x s : Operand) (i1 : Nat) (ho1 : o1.op = .buildSlice t 1 #[(0, x)]) (ho2 : o2.op = .call { callee := .builtin .append, args := #[s, .tmp i1], argTypes := #[t, t] })
    (base : Nat) (z : Value) (size bytes : Nat) (ht : P.underlying t = some (.slice e)) (hi : (P.info? e).map (fun i => (i.zero, i.size, i.bytes)) = some (some z, size, bytes))
    (hzs : z.cells.size = size) (hsz : 0 < size) (hm : size ≤ 2 ^ 24) (row : List Value) (hr : row.length = size) (h1 : ∀ u ∈ row, u.oneCell' = true)
    (v : Value) (n : Nat) (xs : List Value) (hown : w.ownsRow base e size v n xs) (hx : a.eval x = .agg row.toArray)
    (hs : (a.put o1.dst (.slice (some ⟨w.heap.size, 0, none⟩) 1 1)).eval s = v) (he : (a.put o1.dst (.slice (some ⟨w.heap.size, 0, none⟩) 1 1)).eval (.tmp i1) = .slice (some ⟨w.heap.size, 0, none⟩) 1 1)
    (hbytes : (n + 1) * bytes ≤ 140737488355328) (hby : 0 < bytes) (hbase : base ≤ w.heap.size)
    (h : ∀ A' c' w', w'.ownsRow base e size (.slice A' (n + 1) c') (n + 1) (xs ++ row) → Chg v.ownBlock.toList w w' →
      wpList P ops Q rest ((a.put o1.dst (.slice (some ⟨w.heap.size, 0, none⟩) 1 1)).put o2.dst (.slice A' (n + 1) c')) w') : wpList P ops Q (o1 :: o2 :: rest) a w := by
  obtain ⟨i0, hi0, hz0, hz1, hz2⟩ := info_parts hi
  have hb := run_build_one (P := P) t e ht i0 hi0 z hz0 row (by rw [hz1]; exact hr) (by omega) (by omega) w
  refine wpList_plain hg1 fun K hK => ?_
  unfold Oper.wp execOp
  simp [ho1, hx, hb, Result.andThen]
  refine hK _ _ ?_
  have hc := (Chg.refl v.ownBlock.toList w).alloc (.cells row.toArray e)
  exact wpList_append_sl hg2 s (.tmp i1) t ho2 base e z size bytes ht hi hzs hsz v n xs hs (hown.alloc _) _ 1 row he (sl_wide_new w row e size hr) h1 (n + 1) rfl hbytes hby (by have := hc.size; omega)
    (fun A' c' w' k1 k2 _ => h A' c' w' k1 (hc.trans k2))

def thRow (t : Th) : List Value := rowOf t.isAny t.has
def rows (ths : List Th) : List Value := ths.flatMap thRow
theorem rows_snoc (ths : List Th) (t : Th) : rows (ths ++ [t]) = rows ths ++ thRow t := by simp [rows]
theorem new_thing (w : World) : ∃ w1, (storeCells ⟨w.heap.size, 0, none⟩ Try.zeroCells46.toList).run Try.prog (w.alloc (.cells Try.zeroCells46 46)) = .ok () w1 ∧ RBits w1 w.heap.size false (fun _ => false) ∧ Chg [] w w1 := by
  obtain ⟨w1, h1, h2, h3⟩ := run_store_block (P := Try.prog) (w.alloc (.cells Try.zeroCells46 46)) w.heap.size 46 Try.zeroCells46 Try.zeroCells46.toList (blk_new _ _) (by simp) (by rw [zero_row]; intro v hv; exact rowOf_one _ _ v (by simpa using hv))
  refine ⟨w1, h1, RBits.of_row (by rw [h2, zero_row]), ((Chg.refl [] w).alloc _).then h3 (by intro x hx; simp at hx; right; omega)⟩
theorem Try.info_thing : (Try.prog.info? 46).map (fun i => (i.zero, i.size, i.bytes)) = some (some (.agg Try.zeroCells46), 257, 257) := by kernel_rfl
theorem build_any (w : World) : (Instr.build 46 #[(0, .bool true)]).run Try.prog w = .ok (.agg (thRow .any).toArray) w := run_build w 46 _ _ (by kernel_rfl)
/-- What the reference's `Things` tells. -/
def RefEnd (w : World) (l : List UInt8) (e : Ending) (w' : World) : Prop :=
  Chg [] w w' ∧
  ((l.length > 1024 ∧ e = .returned (.tuple #[.slice none 0 0, .int .i64 6]))
  ∨ (l.length ≤ 1024 ∧ parse l = none ∧ e = .returned (.tuple #[.slice none 0 0, .int .i64 4]))
  ∨ (l.length ≤ 1024 ∧ ∃ ths A c, parse l = some ths ∧ e = .returned (.tuple #[.slice A ths.length c, .int .i64 0]) ∧ Sl w' 257 (.slice A ths.length c) ths.length (rows ths) ∧ ths.length ≤ l.length))
/-- One thing more. -/
theorem ref_step {w W w1 : World} {n n' c c' : Nat} {A A' : Option Addr} {ths : List Th} {t : Th} (hC : Chg [] w W) (hO : W.ownsRow w.heap.size 46 257 (.slice A n c) n (rows ths))
    (hO' : w1.ownsRow w.heap.size 46 257 (.slice A' n' c') n' (rows ths ++ thRow t)) (hCh : Chg (Value.slice A n c).ownBlock.toList W w1) : w1.ownsRow w.heap.size 46 257 (.slice A' n' c') n' (rows (ths ++ [t])) ∧ Chg [] w w1 :=
  ⟨by rw [rows_snoc]; exact hO', hC.then hCh (fun k hk => .inr (hO.lt k (by simpa using hk)).1)⟩
theorem wpList_move {P : Program} {ops : Array Oper} {rest : List Oper} {o : Oper} {a : Act} {w : World} {Q : Exit → Act → World → Prop} (hg : o.guard = none) (x : Operand) (ho : o.op = .move x)
    (h : wpList P ops Q rest (a.put o.dst (a.eval x)) w) : wpList P ops Q (o :: rest) a w := by
  refine wpList_plain hg fun K hK => ?_
  unfold Oper.wp execOp
  simp [ho, Result.andThen]
  exact hK _ _ h
theorem lit_put {w2 : World} {g : Nat} {a : UInt8} (h : RBits w2 g false (fun _ => false)) : (w2.setCell ⟨g, 1 + a.toNat, none⟩ (.bool true)).heap[g]? = some (.cells (thRow (.lit a)).toArray 46 (0, 0)) :=
  ((h.put a).congr (y := (Th.lit a).has) (fun c => by rw [Bool.or_false]; exact Bool.beq_comm)).row
theorem Chg.trans' {a b c : World} (h : Chg [] a b) (k : Chg [a.heap.size] b c) : Chg [] a c := h.then k (by intro x hx; simp at hx; right; omega)
set_option maxRecDepth 100000 in
set_option maxHeartbeats 4000000 in
theorem things_ref (s : ByteArray) (hs : s.size ≤ 9223372036854775807) (w : World) : Calls Try.prog 12 #[.string s] w (RefEnd w s.data.toList) := by
  obtain ⟨l, hl⟩ : ∃ l, l = s.data.toList := ⟨_, rfl⟩
  have hls : l.length = s.size := by rw [hl, Array.length_toList]; rfl
  have hby : ∀ i (h : i < s.size), l[i]? = some (s[i]'h) := fun i h => by rw [hl]; exact byte_at s i h
  rw [← hl]
  replace hl := Lib.hid hl
  replace hls := Lib.hid hls
  replace hby := Lib.hid hby
  by_cases hmost : s.size ≤ 1024
  case neg =>
    go_enter Try.func12, Try.ntmps12
    go_wp2
    go_ret2
    exact ⟨Chg.refl _ _, .inl ⟨by rw [hls.out]; omega, rfl⟩⟩
  go_enter Try.func12, Try.ntmps12
  go_wp2_with fail
  go_loopw [4, 5] (fun v i wr => ∃ (k n : Nat) (A : Option Addr) (c : Nat) (ths : List Th), k ≤ s.size ∧ n ≤ k ∧ i = .int .i64 k ∧ v = .slice A n c ∧ wr.ownsRow w.heap.size 46 257 (.slice A n c) n (rows ths) ∧ ths.length = n ∧ Hid (parse l = (parse (l.drop k)).map (ths ++ ·)) ∧ Chg [] w wr) (fun _ i _ => s.size - (intOf i).toNat)
  case atStart => exact ⟨0, 0, none, 0, [], by omega, by omega, rfl, rfl, ⟨rfl, .inl ⟨rfl, rfl⟩⟩, rfl, (show parse l = _ by simp), Chg.refl _ _⟩
  case round =>
    obtain ⟨k, n, A, c, ths, hk, hnk, rfl, rfl, hO, hlen, hp, hC⟩ := hrel
    by_cases hlt : k < s.size
    · obtain ⟨a, ha⟩ : ∃ a, a = s[k]'hlt := ⟨_, rfl⟩
      have hla := drop_at ((hby.out k hlt).trans (by rw [← ha]))
      have ha' := ha.symm
      clear ha
      replace hO := Lib.hid hO
      replace hC := Lib.hid hC
      by_cases h1 : a = 42
      · subst h1
        have hp' := parse_step hp.out (by rw [hla]; exact parse_star _)
        clear hla hp
        replace hp' : Hid _ := Lib.hid hp'
        have hbd := fun w => build_any w
        have hone := Lib.hid (rowOf_one Th.any.isAny Th.any.has)
        go_wp2_with (refine wpList_one_more rfl rfl 24 46 (.tmp 20) (.tmp 19) 21 rfl rfl w.heap.size (.agg Try.zeroCells46) 257 257 Try.underlying24 Try.info_thing (by kernel_rfl) (by decide) (by decide) (thRow .any) (rowOf_length _ _) hone.out _ n (rows ths) hO.out rfl rfl rfl (by omega) (by decide) hC.out.size ?_)
        intro A' c' w1 hO' hCh
        obtain ⟨hO2, hC2⟩ := ref_step hC.out hO.out hO' hCh
        clear hCh hO' hbd hone
        replace hO2 := Lib.hid hO2
        replace hC2 := Lib.hid hC2
        clear hO hC
        go_wp2_with fail
        go_roundw
        case rel => exact ⟨k + 1, n + 1, A', c', _, by omega, by omega, by go_num, rfl, hO2.out, by simp [hlen], hp', hC2.out⟩
        case measure => simp [intOf]; omega
      by_cases h2 : a = 63
      · subst h2
        have hp' := parse_step hp.out (by rw [hla]; exact parse_one _)
        clear hla hp h1
        replace hp' : Hid _ := Lib.hid hp'
        have hone := Lib.hid (rowOf_one Th.one.isAny Th.one.has)
        go_wp2_with fail
        refine (all_ref _).mono ?_
        rintro e w2 ⟨rfl, hCa⟩
        have hO2 := Lib.hid (own_chg hO.out hCa (by simp))
        have hC2 := Lib.hid (hC.out.trans hCa)
        clear hO hC hCa
        go_wp2_with (refine wpList_one_more rfl rfl 24 46 (.tmp 28) (.tmp 27) 29 rfl rfl w.heap.size (.agg Try.zeroCells46) 257 257 Try.underlying24 Try.info_thing (by kernel_rfl) (by decide) (by decide) (thRow .one) (rowOf_length _ _) hone.out _ n (rows ths) hO2.out rfl rfl rfl (by omega) (by decide) hC2.out.size ?_)
        intro A' c' w1 hO' hCh
        obtain ⟨hO3, hC3⟩ := ref_step hC2.out hO2.out hO' hCh
        clear hCh hO' hone
        replace hO3 := Lib.hid hO3
        replace hC3 := Lib.hid hC3
        clear hO2 hC2
        go_wp2_with fail
        go_roundw
        case rel => exact ⟨k + 1, n + 1, A', c', _, by omega, by omega, by go_num, rfl, hO3.out, by simp [hlen], hp', hC3.out⟩
        case measure => simp [intOf]; omega
      replace hla := Lib.hid hla
      by_cases h5 : a = 91
      · subst h5
        clear h1 h2
        have hpn : (l.drop (k + 2)).findIdx? (· == 93) = none → parse l = none := fun h => by
          rw [hp.out, hla.out, parse_set_none _ (by rw [List.drop_drop]; exact h)]; rfl
        replace hpn := Lib.hid hpn
        obtain ⟨wo, rfl⟩ : ∃ wo : World, wo = wr := ⟨_, rfl⟩
        go_wp2_with fail
        go_loopw [6] (fun i wx => ∃ (m : Nat), (m = 0 ∨ k + 2 + m ≤ s.size) ∧ i = .int .i64 (k + 2 + m : Nat) ∧ Hid (∀ j b, j < m → (l.drop (k + 2))[j]? = some b → b ≠ 93) ∧ wo = wx) (fun i _ => s.size + 3 - (intOf i).toNat)
        case atStart => exact ⟨0, .inl rfl, by go_num, (show ∀ _ _, _ from fun j b hj => absurd hj (by omega)), rfl⟩
        case round =>
          obtain ⟨m, hm, rfl, hno, rfl⟩ := hrel
          by_cases hc : k + 2 + m < s.size
          · obtain ⟨b, hb⟩ : ∃ b, b = s[k + 2 + m]'hc := ⟨_, rfl⟩
            have hlb : (l.drop (k + 2))[m]? = some b := by rw [List.getElem?_drop, hby.out _ hc, ← hb]
            have hb' := hb.symm
            clear hb
            by_cases h93 : b = 93
            · subst h93
              have hidx : (l.drop (k + 2)).findIdx? (· == 93) = some m := by
                rw [List.findIdx?_eq_some_iff_getElem]
                obtain ⟨h1, h2⟩ := List.getElem?_eq_some_iff.1 hlb
                refine ⟨h1, by rw [h2]; rfl, fun j hj => ?_⟩
                have := hno.out j _ hj (List.getElem?_eq_getElem (by omega))
                simpa using this
              have hp' := parse_step hp.out (by rw [hla.out]; exact parse_set_some _ m (by rw [List.drop_drop]; exact hidx))
              rw [List.drop_drop, show k + 1 + (m + 2) = k + m + 3 by omega] at hp'
              have hle : (s.extract (k + 1) (k + 2 + m)).data.toList = (l.drop (k + 1)).take (m + 1) := by
                rw [extract_list, ← hl.out, List.drop_take, show k + 2 + m - (k + 1) = m + 1 by omega]
              replace hp' : Hid _ := Lib.hid hp'
              replace hle := Lib.hid hle
              clear hidx hpn hp hla hno hlb
              obtain ⟨X, hX⟩ : ∃ X, X = (l.drop (k + 1)).take (m + 1) := ⟨_, rfl⟩
              rw [← hX] at hle hp'
              clear hX
              have hone := Lib.hid (rowOf_one (Th.set X).isAny (Th.set X).has)
              go_wp2_with fail
              refine (set_ref _ (by rw [ByteArray.size_extract]; omega) _).mono ?_
              rintro e w2 ⟨rfl, hCa⟩
              rw [hle.out]
              have hO2 := Lib.hid (own_chg hO.out hCa (by simp))
              have hC2 := Lib.hid (hC.out.trans hCa)
              clear hO hC hCa hle
              go_wp2_with (refine wpList_one_more rfl rfl 24 46 (.tmp 59) (.tmp 53) 60 rfl rfl w.heap.size (.agg Try.zeroCells46) 257 257 Try.underlying24 Try.info_thing (by kernel_rfl) (by decide) (by decide) (thRow (.set X)) (rowOf_length _ _) hone.out _ n (rows ths) hO2.out rfl rfl rfl (by omega) (by decide) hC2.out.size ?_)
              intro A' c' w1 hO' hCh
              obtain ⟨hO3, hC3⟩ := ref_step hC2.out hO2.out hO' hCh
              clear hCh hO' hone
              replace hO3 := Lib.hid hO3
              replace hC3 := Lib.hid hC3
              clear hO2 hC2
              go_wp2_with fail
              go_roundw
              case rel => exact ⟨k + m + 3, n + 1, A', c', _, by omega, by omega, by go_num, rfl, hO3.out, by simp [hlen], hp', hC3.out⟩
              case measure => simp [intOf]; omega
            · have hne := u8_ne (n := 93) h93
              have hno' : Hid (∀ j b, j < m + 1 → (l.drop (k + 2))[j]? = some b → b ≠ 93) := by
                intro j b' hj hjb
                by_cases e : j = m
                · subst e; rw [hlb] at hjb; cases hjb; exact h93
                · exact hno.out j b' (by omega) hjb
              clear hno hlb h93
              go_wp2_with fail
              go_roundw
              case rel => exact ⟨m + 1, .inr (by omega), by go_num, hno', by first | rfl | trivial⟩
              case measure => simp [intOf]; omega
          · have hfin := hpn.out (by
              rw [List.findIdx?_eq_none_iff]
              intro x hx
              obtain ⟨j, hj, rfl⟩ := List.mem_iff_getElem.1 hx
              have h3 := hj
              rw [List.length_drop, hls.out] at h3
              have := hno.out j _ (by omega) (List.getElem?_eq_getElem hj)
              simpa using this)
            clear hpn hno hp hla
            go_wp2_with fail
            go_ret2
            exact ⟨hC.out, .inr (.inl ⟨by rw [hls.out]; omega, hfin, rfl⟩)⟩
      by_cases h6 : a = 92
      · subst h6
        clear h1 h2 h5
        by_cases hc : k + 1 < s.size
        · obtain ⟨d, hd⟩ : ∃ d, d = s[k + 1]'hc := ⟨_, rfl⟩
          have h1 := drop_at ((hby.out (k + 1) hc).trans (by rw [← hd]))
          have hp' := parse_step hp.out (by rw [hla.out, h1]; exact parse_esc _ _)
          replace hp' : Hid _ := Lib.hid hp'
          have hd' := hd.symm
          clear hd hla h1 hp
          obtain ⟨w2, hw2, hB2, hCn⟩ := new_thing wr
          have hcell := hB2.cell d
          have hfr := hB2.frozen d
          have hrow := Lib.hid (lit_put (a := d) hB2)
          have hCp := hCn.trans' (((Chg.refl [wr.heap.size] w2).setCell (p := ⟨wr.heap.size, 1 + d.toNat, none⟩) (.inl (by simp)) (.bool true)))
          have h256 : (d.toNat : Int) < 256 := by have := d.toNat_lt; omega
          have h0 : (0 : Int) ≤ d.toNat := by omega
          have hone := Lib.hid (rowOf_one (Th.lit d).isAny (Th.lit d).has)
          have hO2 := Lib.hid (own_chg hO.out hCp (by simp))
          have hC2 := Lib.hid (hC.out.trans hCp)
          clear hO hC hCp hB2 hCn
          go_upto_region 24 with fail
          go_step
          refine wpList_move rfl (.tmp 4) rfl ?_
          refine wpList_load_row (o := ⟨some 80, _, _, _, _, _⟩) rfl 46 (.tmp 7) rfl wr.heap.size rfl 46 _ (0, 0) _ hrow.out Try.underlying46 rfl (Try.thing_size.trans (by simp [thRow, rowOf_length])) ?_
          refine wpList_one_more rfl rfl 24 46 (.tmp 80) (.tmp 79) 81 rfl rfl w.heap.size (.agg Try.zeroCells46) 257 257 Try.underlying24 Try.info_thing (by kernel_rfl) (by decide) (by decide) (thRow (.lit d)) (rowOf_length _ _) hone.out _ n (rows ths) hO2.out rfl rfl rfl (by omega) (by decide) hC2.out.size ?_
          intro A' c' w1 hO' hCh
          obtain ⟨hO3, hC3⟩ := ref_step hC2.out hO2.out hO' hCh
          clear hCh hO' hone hrow hcell hfr hw2
          replace hO3 := Lib.hid hO3
          replace hC3 := Lib.hid hC3
          clear hO2 hC2
          go_wp2_with fail
          go_roundw
          case rel => exact ⟨k + 2, n + 1, A', c', _, by omega, by omega, by go_num, rfl, hO3.out, by simp [hlen], hp', hC3.out⟩
          case measure => simp [intOf]; omega
        · have hfin : parse l = none := by
            rw [hp.out, hla.out, List.drop_eq_nil_of_le (by rw [hls.out]; omega), parse_esc_nil]; rfl
          clear hp hla
          go_wp2_with fail
          go_ret2
          exact ⟨hC.out, .inr (.inl ⟨by rw [hls.out]; omega, hfin, rfl⟩)⟩
      have hp' := parse_step hp.out (by rw [hla.out]; exact parse_lit a _ h1 h2 h5 h6)
      replace hp' : Hid _ := Lib.hid hp'
      have e1 : ((a.toNat : Int) == 42) = false := u8_ne h1
      have e2 : ((a.toNat : Int) == 63) = false := u8_ne h2
      have e3 : ((a.toNat : Int) == 91) = false := u8_ne h5
      have e4 : ((a.toNat : Int) == 92) = false := u8_ne h6
      clear h1 h2 h5 h6 hp hla
      obtain ⟨w2, hw2, hB2, hCn⟩ := new_thing wr
      have hcell := hB2.cell a
      have hfr := hB2.frozen a
      have hrow := Lib.hid (lit_put (a := a) hB2)
      have hCp := hCn.trans' (((Chg.refl [wr.heap.size] w2).setCell (p := ⟨wr.heap.size, 1 + a.toNat, none⟩) (.inl (by simp)) (.bool true)))
      have h256 : (a.toNat : Int) < 256 := by have := a.toNat_lt; omega
      have h0 : (0 : Int) ≤ a.toNat := by omega
      have hone := Lib.hid (rowOf_one (Th.lit a).isAny (Th.lit a).has)
      have hO2 := Lib.hid (own_chg hO.out hCp (by simp))
      have hC2 := Lib.hid (hC.out.trans hCp)
      clear hO hC hCp hB2 hCn
      go_upto_region 24 with fail
      go_step
      refine wpList_move rfl (.tmp 4) rfl ?_
      refine wpList_load_row (o := ⟨some 80, _, _, _, _, _⟩) rfl 46 (.tmp 7) rfl wr.heap.size rfl 46 _ (0, 0) _ hrow.out Try.underlying46 rfl (Try.thing_size.trans (by simp [thRow, rowOf_length])) ?_
      refine wpList_one_more rfl rfl 24 46 (.tmp 80) (.tmp 79) 81 rfl rfl w.heap.size (.agg Try.zeroCells46) 257 257 Try.underlying24 Try.info_thing (by kernel_rfl) (by decide) (by decide) (thRow (.lit a)) (rowOf_length _ _) hone.out _ n (rows ths) hO2.out rfl rfl rfl (by omega) (by decide) hC2.out.size ?_
      intro A' c' w1 hO' hCh
      obtain ⟨hO3, hC3⟩ := ref_step hC2.out hO2.out hO' hCh
      clear hCh hO' hone hrow hcell hfr hw2
      replace hO3 := Lib.hid hO3
      replace hC3 := Lib.hid hC3
      clear hO2 hC2
      go_wp2_with fail
      go_roundw
      case rel => exact ⟨k + 1, n + 1, A', c', _, by omega, by omega, by go_num, rfl, hO3.out, by simp [hlen], hp', hC3.out⟩
      case measure => simp [intOf]; omega
    · obtain rfl : k = s.size := by omega
      have hfin : parse l = some ths := by
        rw [hp.out, List.drop_eq_nil_of_le (by rw [hls.out]; omega), parse_nil]; simp
      subst hlen
      clear hp
      go_wp2_with fail
      go_ret2
      exact ⟨hC, .inr (.inr ⟨by rw [hls.out]; omega, ths, A, c, hfin, rfl, own_sl hO, by rw [hls.out]; omega⟩)⟩
end Go.Proofs.Ytjocfajnabkhaaa
