/- Contract of glob.things. Conditions: as it states. -/
import Derived.Test.YtojgdmpnbgikeaaGlob
import Derived.Lib.Bytealg
set_option linter.unusedVariables false
set_option linter.unusedSimpArgs false
namespace Go.Proofs.Ytojgdmpnbgikeaa
open Go.RowKit Glob

@[go_sem] theorem ext_index (s : ByteArray) (c : Int) (w : World) : (callFunc 55 #[.string s, .int .u8 c]).run Try.prog w = .ok (.value (.int .i64 (Lib.indexByte s.data.toList c.toNat.toUInt8))) w := by
  rw [run_callFunc_extern Try.func55 (by kernel_rfl) (by kernel_rfl) (by kernel_rfl) (e := Extern.BytealgIndexByte.indexByte) (by kernel_rfl), Lib.run_indexByteString]
  rfl
theorem slite_any (s : ByteArray) (c : Int) (w : World) :
    Calls Try.prog 53 #[.string s, .int .u8 c] w fun e w' => e = .returned (.int .i64 (Lib.indexByte s.data.toList c.toNat.toUInt8)) ∧ w = w' := by
  go_enter Try.func53, Try.ntmps53
  go_wp2
  go_ret
  exact ⟨rfl, rfl⟩
theorem index_any (s : ByteArray) (c : Int) (w : World) :
    Calls Try.prog 47 #[.string s, .int .u8 c] w fun e w' => e = .returned (.int .i64 (Lib.indexByte s.data.toList c.toNat.toUInt8)) ∧ w = w' := by
  go_enter Try.func47, Try.ntmps47
  go_wp2_with fail
  refine (slite_any s c w).mono ?_
  rintro e w' ⟨rfl, rfl⟩
  go_wp2
  go_ret
  exact ⟨rfl, rfl⟩
theorem index_find (l : List UInt8) (c : UInt8) : Lib.indexByte l c = match l.findIdx? (· == c) with | none => -1 | some n => (n : Int) := by
  induction l with
  | nil => simp [Lib.indexByte]
  | cons b l ih =>
    rw [Lib.indexByte, List.findIdx?_cons]
    by_cases h : b == c
    · simp [h]
    · rw [if_neg h, if_neg h, ih]
      cases l.findIdx? (· == c) with
      | none => simp
      | some n =>
        simp; try omega

/-- The values are these things. -/
def AllTh (w : World) (cs : List Value) (ths : List Th) : Prop := cs.length = ths.length ∧ ∀ (j : Nat) (v : Value) (t : Th), cs[j]? = some v → ths[j]? = some t → IsTh w v t
theorem AllTh.nil (w : World) : AllTh w [] [] := ⟨rfl, fun j v t h => by simp at h⟩
theorem AllTh.chg {S : List Nat} {w w' : World} {cs : List Value} {ths : List Th} (h : AllTh w cs ths) (hc : Chg S w w') (hS : ∀ k ∈ S, ∃ cs f, w.heap[k]? = some (.cells cs 92 f)) : AllTh w' cs ths :=
  ⟨h.1, fun j v t h1 h2 => (h.2 j v t h1 h2).chg hc hS⟩
theorem AllTh.snoc {w : World} {cs : List Value} {ths : List Th} (h : AllTh w cs ths) {v : Value} {t : Th} (ht : IsTh w v t) : AllTh w (cs ++ [v]) (ths ++ [t]) := by
  refine ⟨by simp [h.1], fun j v' t' h1 h2 => ?_⟩
  by_cases hj : j < cs.length
  · rw [List.getElem?_append_left hj] at h1
    rw [List.getElem?_append_left (by rw [← h.1]; exact hj)] at h2
    exact h.2 j v' t' h1 h2
  · rw [List.getElem?_append_right (by omega)] at h1
    rw [List.getElem?_append_right (by rw [← h.1]; omega)] at h2
    have : j - cs.length = 0 := by
      have := (List.getElem?_eq_some_iff.1 h1).1; simp at this; omega
    rw [this] at h1
    rw [← h.1, this] at h2
    simp at h1 h2; subst h1 h2; exact ht
theorem IsTh.one {w : World} {v : Value} {t : Th} (h : IsTh w v t) : v.oneCell' = true := by
  cases t with
  | any => have : v = _ := h; rw [this]; rfl
  | one => have : v = _ := h; rw [this]; rfl
  | lit c => obtain ⟨b, h1, _⟩ := h; rw [h1]; rfl
  | set l => obtain ⟨b, cs, h1, _⟩ := h; rw [h1]; rfl
theorem own_type {w : World} {base : Nat} {n : Nat} {v : Value} {xs : List Value} (h : w.ownsRow base 92 1 v n xs) : ∀ k ∈ v.ownBlock.toList, (∃ cs f, w.heap[k]? = some (.cells cs 92 f)) ∧ base ≤ k := by
  intro k hk
  rcases h.2 with ⟨rfl, _⟩ | ⟨g, cap, cur, rfl, hb, hg, _⟩
  · simp [Value.ownBlock] at hk
  · simp [Value.ownBlock] at hk; subst hk; exact ⟨⟨_, _, hg⟩, hb⟩
theorem Try.info_th : (Try.prog.info? 92).map (fun i => (i.zero, i.size, i.bytes)) = some (some .nilFunc, 1, 8) := by kernel_rfl

theorem th_step {w W w1 : World} {n c : Nat} {A : Option Addr} {ths : List Th} {cs : List Value} {v : Value} {t : Th} (hC : Chg [] w W) (hO : W.ownsRow w.heap.size 92 1 (.slice A n c) n cs) (hT : AllTh W cs ths) (ht : IsTh W v t)
    (hCh : Chg (Value.slice A n c).ownBlock.toList W w1) : AllTh w1 (cs ++ [v]) (ths ++ [t]) ∧ Chg [] w w1 :=
  ⟨(hT.snoc ht).chg hCh (fun k hk => (own_type hO k hk).1), hC.then hCh (fun k hk => .inr (own_type hO k hk).2)⟩
theorem parse_step {l r r' : List UInt8} {ths : List Th} {t : Th} (hp : parse l = (parse r).map (ths ++ ·)) (h : parse r = (parse r').map (t :: ·)) : parse l = (parse r').map ((ths ++ [t]) ++ ·) := by
  rw [hp, h]; cases parse r' <;> simp
theorem extract_list (s : ByteArray) (a b : Nat) : (s.extract a b).data.toList = (s.data.toList.take b).drop a := by
  rw [ByteArray.data_extract, Array.toList_extract, List.extract_eq_take_drop]
  rw [List.drop_take]

theorem sl_one (w : World) (o : Obj) (v : Value) : Sl ((w.alloc o).alloc (.cells #[v] 92)) 1 (.slice (some ⟨w.heap.size + 1, 0, none⟩) 1 1) 1 [v] := by
  have h := sl_new (w.alloc o) [v] 92 1 rfl (by decide)
  have e : (w.alloc o).heap.size = w.heap.size + 1 := Array.size_push ..
  rw [e] at h; exact h
theorem u8_ne {a : UInt8} {n : Nat} (h : a ≠ UInt8.ofNat n) (hn : n < 256 := by decide) : ((a.toNat : Int) == (n : Int)) = false := by
  rw [beq_eq_false_iff_ne]
  intro e
  refine h (UInt8.toNat_inj.1 ?_)
  have h2 : (UInt8.ofNat n).toNat = n % 256 := rfl
  rw [h2, Nat.mod_eq_of_lt hn]; omega
/-- What `things` tells. -/
def ThEnd (w : World) (l : List UInt8) (e : Ending) (w' : World) : Prop :=
  Chg [] w w' ∧
  ((l.length > 1024 ∧ e = .returned (.tuple #[.slice none 0 0, .int .i64 6]))
  ∨ (l.length ≤ 1024 ∧ parse l = none ∧ e = .returned (.tuple #[.slice none 0 0, .int .i64 4]))
  ∨ (l.length ≤ 1024 ∧ ∃ ths A c cs, parse l = some ths ∧ e = .returned (.tuple #[.slice A ths.length c, .int .i64 0]) ∧ Sl w' 1 (.slice A ths.length c) ths.length cs ∧ AllTh w' cs ths ∧ ths.length ≤ l.length))
set_option maxRecDepth 100000 in
set_option maxHeartbeats 2000000 in
theorem things_any (s : ByteArray) (hs : s.size ≤ 100000) (w : World) : Calls Try.prog 35 #[.string s] w (ThEnd w s.data.toList) := by
  obtain ⟨l, hl⟩ : ∃ l, l = s.data.toList := ⟨_, rfl⟩
  have hls : l.length = s.size := by rw [hl, Array.length_toList]; rfl
  have hby : ∀ i (h : i < s.size), l[i]? = some (s[i]'h) := fun i h => by rw [hl]; exact byte_at s i h
  rw [← hl]
  replace hl := Lib.hid hl
  replace hls := Lib.hid hls
  replace hby := Lib.hid hby
  by_cases hmost : s.size ≤ 1024
  case neg =>
    go_enter Try.func35, Try.ntmps35
    go_wp2
    go_ret2
    exact ⟨Chg.refl _ _, .inl ⟨by rw [hls.out]; omega, rfl⟩⟩
  go_enter Try.func35, Try.ntmps35
  go_wp2_with fail
  go_loopw [4, 5] (fun v i wr => ∃ (k n : Nat) (A : Option Addr) (c : Nat) (ths : List Th) (cs : List Value), k ≤ s.size ∧ n ≤ k ∧ i = .int .i64 k ∧ v = .slice A n c ∧ wr.ownsRow w.heap.size 92 1 (.slice A n c) n cs ∧ AllTh wr cs ths ∧ ths.length = n ∧ Hid (parse l = (parse (l.drop k)).map (ths ++ ·)) ∧ Chg [] w wr) (fun _ i _ => s.size - (intOf i).toNat)
  case atStart => exact ⟨0, 0, none, 0, [], [], by omega, by omega, rfl, rfl, ⟨rfl, .inl ⟨rfl, rfl⟩⟩, AllTh.nil _, rfl, (show parse l = _ by simp), Chg.refl _ _⟩
  case round =>
    obtain ⟨k, n, A, c, ths, cs, hk, hnk, rfl, rfl, hO, hT, hlen, hp, hC⟩ := hrel
    by_cases hlt : k < s.size
    · obtain ⟨a, ha⟩ : ∃ a, a = s[k]'hlt := ⟨_, rfl⟩
      have hla := drop_at ((hby.out k hlt).trans (by rw [← ha]))
      have ha' := ha.symm
      clear ha
      by_cases h1 : a = 42
      · subst h1
        have hp' := parse_step hp.out (by rw [hla]; exact parse_star _)
        clear hla hp
        replace hC := Lib.hid ((hC.alloc (.cells #[.int .u8 42] 5 (0, 0))).alloc (.cells #[.nilFunc] 92 (0, 0)))
        have K := (((Chg.refl [] wr).alloc (.cells #[.int .u8 42] 5 (0, 0))).alloc (.cells #[.nilFunc] 92 (0, 0)))
        replace hO := Lib.hid (own_chg hO K (by simp))
        replace hT := Lib.hid (hT.chg K (by simp))
        clear K
        replace hp' : Hid _ := Lib.hid hp'
        go_wp2_with (at_builtin; refine wpList_append_sl rfl (.tmp 23) (.tmp 24) 75 rfl w.heap.size 92 .nilFunc 1 8 Try.underlying75 Try.info_th rfl (by decide) _ n cs rfl hO.out _ 1 [.nilFunc] rfl (sl_one _ _ _) (by intro u hu; simp at hu; subst hu; rfl) (n + 1) rfl (by omega) (by decide) hC.out.size ?_)
        intro A' c' w1 hO' hCh hat
        obtain ⟨hT', hC'⟩ := th_step hC.out hO.out hT.out (v := .nilFunc) (t := .any) rfl hCh
        clear hat hCh
        replace hO' := Lib.hid hO'
        replace hT' := Lib.hid hT'
        replace hC' := Lib.hid hC'
        clear hO hT hC
        go_wp2_with fail
        go_roundw
        case rel => exact ⟨k + 1, n + 1, A', c', _, _, by omega, by omega, by go_num, rfl, hO'.out, hT'.out, by simp [hlen], hp', hC'.out⟩
        case measure => simp [intOf]; omega
      by_cases h2 : a = 63
      · subst h2
        have hp' := parse_step hp.out (by rw [hla]; exact parse_one _)
        clear hla hp
        replace hC := Lib.hid ((hC.alloc (.cells #[.int .u8 63] 5 (0, 0))).alloc (.cells #[.func (.func 46) #[] #[]] 92 (0, 0)))
        have K := (((Chg.refl [] wr).alloc (.cells #[.int .u8 63] 5 (0, 0))).alloc (.cells #[.func (.func 46) #[] #[]] 92 (0, 0)))
        replace hO := Lib.hid (own_chg hO K (by simp))
        replace hT := Lib.hid (hT.chg K (by simp))
        clear K
        replace hp' : Hid _ := Lib.hid hp'
        go_wp2_with (at_builtin; refine wpList_append_sl rfl (.tmp 28) (.tmp 29) 75 rfl w.heap.size 92 .nilFunc 1 8 Try.underlying75 Try.info_th rfl (by decide) _ n cs rfl hO.out _ 1 [.func (.func 46) #[] #[]] rfl (sl_one _ _ _) (by intro u hu; simp at hu; subst hu; rfl) (n + 1) rfl (by omega) (by decide) hC.out.size ?_)
        intro A' c' w1 hO' hCh hat
        obtain ⟨hT', hC'⟩ := th_step hC.out hO.out hT.out (v := .func (.func 46) #[] #[]) (t := .one) rfl hCh
        clear hat hCh
        replace hO' := Lib.hid hO'
        replace hT' := Lib.hid hT'
        replace hC' := Lib.hid hC'
        clear hO hT hC
        go_wp2_with fail
        go_roundw
        case rel => exact ⟨k + 1, n + 1, A', c', _, _, by omega, by omega, by go_num, rfl, hO'.out, hT'.out, by simp [hlen], hp', hC'.out⟩
        case measure => simp [intOf]; omega
      replace hla := Lib.hid hla
      by_cases h5 : a = 91
      · subst h5
        clear h1 h2
        have hC0 := hC
        clear hC
        replace hO := Lib.hid hO
        replace hT := Lib.hid hT
        have hpn : (l.drop (k + 2)).findIdx? (· == 93) = none → parse l = none := fun h => by
          rw [hp.out, hla.out, parse_set_none _ (by rw [List.drop_drop]; exact h)]; rfl
        replace hpn := Lib.hid hpn
        by_cases hc : k + 2 ≤ s.size
        · obtain ⟨v, hv⟩ : ∃ v, v = Lib.indexByte (s.extract (k + 2) s.size).data.toList (Int.toNat 93).toUInt8 := ⟨_, rfl⟩
          have hv2 : v = match (l.drop (k + 2)).findIdx? (· == 93) with | none => -1 | some n => (n : Int) := by
            rw [hv, extract_list, ← hl.out, List.take_of_length_le (by rw [hls.out]; omega)]
            exact index_find _ _
          replace hv := Lib.hid hv
          replace hv2 := Lib.hid hv2
          go_wp2_with fail
          refine (index_any _ _ _).mono ?_
          rintro e w' ⟨rfl, rfl⟩
          rw [← hv.out]
          clear hv
          cases hm : (l.drop (k + 2)).findIdx? (· == 93) with
          | none =>
            obtain rfl : v = -1 := by rw [hv2.out, hm]
            clear hv2
            have hfin := hpn.out hm
            clear hm
            replace hC := Lib.hid (hC0.alloc (.cells #[.int .u8 91] 5 (0, 0)))
            clear hC0
            go_wp2_with fail
            go_ret2
            exact ⟨hC.out, .inr (.inl ⟨by rw [hls.out]; omega, hfin, rfl⟩)⟩
          | some m =>
            obtain rfl : v = m := by rw [hv2.out, hm]
            clear hv2
            have hmlt : k + 2 + m < s.size := by
              have := (List.findIdx?_eq_some_iff_getElem.1 hm).1
              rw [List.length_drop, hls.out] at this; omega
            have hp' := parse_step hp.out (by rw [hla.out]; exact parse_set_some _ m (by rw [List.drop_drop]; exact hm))
            rw [List.drop_drop, show k + 1 + (m + 2) = k + m + 3 by omega] at hp'
            have hle : (s.extract (k + 1) (k + 2 + m)).data.toList = (l.drop (k + 1)).take (m + 1) := by
              rw [extract_list, ← hl.out, List.drop_take, show k + 2 + m - (k + 1) = m + 1 by omega]
            replace hp' : Hid _ := Lib.hid hp'
            replace hle := Lib.hid hle
            clear hm hpn hp hla
            go_wp2_with fail
            refine (set_any _ (by rw [ByteArray.size_extract]; omega) _).mono ?_
            rintro e w2 ⟨b, rfl, hB, hCs, hb⟩
            rw [hle.out] at hB
            have K := ((Chg.refl [] wr).alloc (.cells #[.int .u8 91] 5 (0, 0))).trans hCs
            have hBK := hB.chg ((Chg.refl [] w2).alloc (.cells #[.func (.func 54) #[] #[.pointer (some ⟨b, 0, none⟩)]] 92 (0, 0))) (by simp)
            replace hC := Lib.hid ((hC0.trans K).alloc (.cells #[.func (.func 54) #[] #[.pointer (some ⟨b, 0, none⟩)]] 92 (0, 0)))
            replace K := K.alloc (.cells #[.func (.func 54) #[] #[.pointer (some ⟨b, 0, none⟩)]] 92 (0, 0))
            replace hO := Lib.hid (own_chg hO.out K (by simp))
            replace hT := Lib.hid (hT.out.chg K (by simp))
            replace hBK := Lib.hid hBK
            clear K hC0 hCs hb hle hB
            go_wp2_with (at_builtin; refine wpList_append_sl rfl (.tmp 43) (.tmp 53) 75 rfl w.heap.size 92 .nilFunc 1 8 Try.underlying75 Try.info_th rfl (by decide) _ n cs rfl hO.out _ 1 [.func (.func 54) #[] #[.pointer (some ⟨b, 0, none⟩)]] rfl (sl_new w2 _ 92 1 rfl (by decide)) (by intro u hu; simp at hu; subst hu; rfl) (n + 1) rfl (by omega) (by decide) hC.out.size ?_)
            intro A' c' w1 hO' hCh hat
            obtain ⟨hT', hC'⟩ := th_step hC.out hO.out hT.out (v := .func (.func 54) #[] #[.pointer (some ⟨b, 0, none⟩)]) (t := .set ((l.drop (k + 1)).take (m + 1))) ⟨b, hBK.out.choose, rfl, hBK.out.choose_spec⟩ hCh
            clear hat hCh
            replace hO' := Lib.hid hO'
            replace hT' := Lib.hid hT'
            replace hC' := Lib.hid hC'
            clear hO hT hC
            go_wp2_with fail
            go_roundw
            case rel => exact ⟨k + m + 3, n + 1, A', c', _, _, by omega, by omega, by go_num, rfl, hO'.out, hT'.out, by simp [hlen], hp', hC'.out⟩
            case measure => simp [intOf]; omega
            
        · have hv : -1 = Lib.indexByte ByteArray.empty.data.toList (Int.toNat 93).toUInt8 := rfl
          replace hv := Lib.hid hv
          have hfin := hpn.out (by rw [List.drop_eq_nil_of_le (by rw [hls.out]; omega)]; rfl)
          replace hC := Lib.hid (hC0.alloc (.cells #[.int .u8 91] 5 (0, 0)))
          clear hC0
          go_wp2_with fail
          refine (index_any _ _ _).mono ?_
          rintro e w' ⟨rfl, rfl⟩
          rw [← hv.out]
          clear hv
          go_wp2_with fail
          go_ret2
          exact ⟨hC.out, .inr (.inl ⟨by rw [hls.out]; omega, hfin, rfl⟩)⟩
      by_cases h6 : a = 92
      · subst h6
        clear h1 h2 h5
        have hC0 := hC
        clear hC
        by_cases hc : k + 1 < s.size
        · obtain ⟨d, hd⟩ : ∃ d, d = s[k + 1]'hc := ⟨_, rfl⟩
          have h1 := drop_at ((hby.out (k + 1) hc).trans (by rw [← hd]))
          have hp' := parse_step hp.out (by rw [hla.out, h1]; exact parse_esc _ _)
          replace hp' : Hid _ := Lib.hid hp'
          have hd' := hd.symm
          clear hd hla h1 hp
          have hcell : ((wr.alloc (.cells #[.int .u8 d.toNat] 5 (0, 0))).alloc (.cells #[.func (.func 49) #[] #[.pointer (some ⟨wr.heap.size, 0, none⟩)]] 92 (0, 0))).heap[wr.heap.size]? = some (.cells #[.int .u8 d.toNat] 5 (0, 0)) := blk_alloc (blk_new _ _) _
          replace hcell := Lib.hid hcell
          have K := ((Chg.refl [] wr).alloc (.cells #[.int .u8 d.toNat] 5 (0, 0))).alloc (.cells #[.func (.func 49) #[] #[.pointer (some ⟨wr.heap.size, 0, none⟩)]] 92 (0, 0))
          replace hC := Lib.hid (hC0.trans K)
          replace hO := Lib.hid (own_chg hO K (by simp))
          replace hT := Lib.hid (hT.chg K (by simp))
          clear K hC0
          go_wp2_with (at_builtin; refine wpList_append_sl rfl (.tmp 70) (.tmp 72) 75 rfl w.heap.size 92 .nilFunc 1 8 Try.underlying75 Try.info_th rfl (by decide) _ n cs rfl hO.out _ 1 [.func (.func 49) #[] #[.pointer (some ⟨wr.heap.size, 0, none⟩)]] rfl (sl_one _ _ _) (by intro u hu; simp at hu; subst hu; rfl) (n + 1) rfl (by omega) (by decide) hC.out.size ?_)
          intro A' c' w1 hO' hCh hat
          obtain ⟨hT', hC'⟩ := th_step hC.out hO.out hT.out (v := .func (.func 49) #[] #[.pointer (some ⟨wr.heap.size, 0, none⟩)]) (t := .lit d) ⟨_, rfl, hcell.out⟩ hCh
          clear hat hCh
          replace hO' := Lib.hid hO'
          replace hT' := Lib.hid hT'
          replace hC' := Lib.hid hC'
          clear hO hT hC
          go_wp2_with fail
          go_roundw
          case rel => exact ⟨k + 2, n + 1, A', c', _, _, by omega, by omega, by go_num, rfl, hO'.out, hT'.out, by simp [hlen], hp', hC'.out⟩
          case measure => simp [intOf]; omega
          
        · have hfin : parse l = none := by
            rw [hp.out, hla.out, List.drop_eq_nil_of_le (by rw [hls.out]; omega), parse_esc_nil]; rfl
          replace hC := Lib.hid (hC0.alloc (.cells #[.int .u8 92] 5 (0, 0)))
          clear hC0 hp hla
          go_wp2_with fail
          go_ret2
          exact ⟨hC.out, .inr (.inl ⟨by rw [hls.out]; omega, hfin, rfl⟩)⟩
      have hp' := parse_step hp.out (by rw [hla.out]; exact parse_lit a _ h1 h2 h5 h6)
      replace hp' : Hid _ := Lib.hid hp'
      have e1 : ((a.toNat : Int) == 42) = false := u8_ne h1
      have e2 : ((a.toNat : Int) == 63) = false := u8_ne h2
      have e3 : ((a.toNat : Int) == 91) = false := u8_ne h5
      have e4 : ((a.toNat : Int) == 92) = false := u8_ne h6
      clear h1 h2 h5 h6 hp hla
      have hcell : ((wr.alloc (.cells #[.int .u8 a.toNat] 5 (0, 0))).alloc (.cells #[.func (.func 49) #[] #[.pointer (some ⟨wr.heap.size, 0, none⟩)]] 92 (0, 0))).heap[wr.heap.size]? = some (.cells #[.int .u8 a.toNat] 5 (0, 0)) := blk_alloc (blk_new _ _) _
      have K := ((Chg.refl [] wr).alloc (.cells #[.int .u8 a.toNat] 5 (0, 0))).alloc (.cells #[.func (.func 49) #[] #[.pointer (some ⟨wr.heap.size, 0, none⟩)]] 92 (0, 0))
      replace hC := Lib.hid (hC.trans K)
      replace hO := Lib.hid (own_chg hO K (by simp))
      replace hT := Lib.hid (hT.chg K (by simp))
      replace hcell := Lib.hid hcell
      clear K
      go_wp2_with (at_builtin; refine wpList_append_sl rfl (.tmp 70) (.tmp 72) 75 rfl w.heap.size 92 .nilFunc 1 8 Try.underlying75 Try.info_th rfl (by decide) _ n cs rfl hO.out _ 1 [.func (.func 49) #[] #[.pointer (some ⟨wr.heap.size, 0, none⟩)]] rfl (sl_one _ _ _) (by intro u hu; simp at hu; subst hu; rfl) (n + 1) rfl (by omega) (by decide) hC.out.size ?_)
      intro A' c' w1 hO' hCh hat
      obtain ⟨hT', hC'⟩ := th_step hC.out hO.out hT.out (v := .func (.func 49) #[] #[.pointer (some ⟨wr.heap.size, 0, none⟩)]) (t := .lit a) ⟨_, rfl, hcell.out⟩ hCh
      clear hat hCh
      replace hO' := Lib.hid hO'
      replace hT' := Lib.hid hT'
      replace hC' := Lib.hid hC'
      clear hO hT hC
      go_wp2_with fail
      go_roundw
      case rel => exact ⟨k + 1, n + 1, A', c', _, _, by omega, by omega, by go_num, rfl, hO'.out, hT'.out, by simp [hlen], hp', hC'.out⟩
      case measure => simp [intOf]; omega
      
    · obtain rfl : k = s.size := by omega
      have hfin : parse l = some ths := by
        rw [hp.out, List.drop_eq_nil_of_le (by rw [hls.out]; omega), parse_nil]; simp
      subst hlen
      go_wp2_with fail
      go_ret2
      exact ⟨hC, .inr (.inr ⟨by rw [hls.out]; omega, ths, A, c, cs, hfin, rfl, own_sl hO, hT, by rw [hls.out]; omega⟩)⟩
end Go.Proofs.Ytojgdmpnbgikeaa
