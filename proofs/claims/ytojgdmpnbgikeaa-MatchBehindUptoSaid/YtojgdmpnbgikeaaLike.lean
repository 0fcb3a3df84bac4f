/- Contract of glob.like. Conditions: as it states. -/
import Derived.Test.YtojgdmpnbgikeaaThings
import Derived.Test.YtojgdmpnbgikeaaLikeSpec
import Derived.WalkMore
set_option linter.unusedVariables false
set_option linter.unusedSimpArgs false
namespace Go.Proofs.Ytojgdmpnbgikeaa
open Go.RowKit Glob

@[go_sem] theorem eq_func (f : Fn) (ca : Array Value) (w : World) : (binOp .eql 92 (.func f #[] ca) .nilFunc).run Try.prog w = .ok (.bool false) w := by kernel_rfl
@[go_sem] theorem eq_nil (w : World) : (binOp .eql 92 .nilFunc .nilFunc).run Try.prog w = .ok (.bool true) w := by kernel_rfl
theorem Sl.get {w : World} {A : Option Addr} {n c : Nat} {xs : List Value} (h : Sl w 1 (.slice A n c) n xs) (j : Nat) (hj : j < n) :
    ∃ b o v, A = some ⟨b, o, none⟩ ∧ xs[j]? = some v ∧ w.cell? ⟨b, o + j, none⟩ = some v := by
  have hl : xs.length = n := by have := h.len; simpa using this
  obtain ⟨A0, c0, e0, h0, h1, h2, h3, h4⟩ := h
  obtain ⟨rfl, rfl⟩ : A0 = A ∧ c0 = c := by simp at e0; exact ⟨e0.1.symm, e0.2.symm⟩
  obtain ⟨ad, rfl, hr⟩ := h4 (by omega)
  have hg : ∀ i (hi : i < xs.length), xs[i]? = some xs[i] := fun i hi => by simp [hi]
  have hspot : ad.spot = none := by
    have := hr 0 _ (hg 0 (by omega))
    exact World.cell?_spot (a := ad) (by simpa [Addr.add] using this)
  obtain ⟨b, off, spot⟩ := ad
  simp only at hspot
  subst hspot
  refine ⟨b, off, xs[j], rfl, hg j (by omega), ?_⟩
  have := hr j _ (hg j (by omega))
  have ha : (⟨b, off, none⟩ : Addr).add j = ⟨b, off + j, none⟩ := by unfold Addr.add; split <;> simp_all
  rwa [ha] at this
set_option maxRecDepth 100000 in
set_option maxHeartbeats 4000000 in
theorem like_any (s : ByteArray) (hs : s.size ≤ 9223372036854775807) (A : Option Addr) (n c : Nat) (hn : n ≤ 100000) (ths : List Th) (cs : List Value) (w : World) (hS : Sl w 1 (.slice A n c) n cs) (hT : AllTh w cs ths) (hln : ths.length = n) :
    Calls Try.prog 39 #[.slice A n c, .string s] w fun e w' => e = .returned (.bool (Like ths s.data.toList)) ∧ ∃ m, w' = w.drewN m := by
  obtain ⟨l, hl⟩ : ∃ l, l = s.data.toList := ⟨_, rfl⟩
  have hls : l.length = s.size := by rw [hl, Array.length_toList]; rfl
  have hby : ∀ i (h : i < s.size), l[i]? = some (s[i]'h) := fun i h => by rw [hl]; exact byte_at s i h
  rw [← hl]
  clear hl
  replace hls := Lib.hid hls
  replace hby := Lib.hid hby
  replace hS := Lib.hid hS
  replace hT := Lib.hid hT
  go_enter Try.func39, Try.ntmps39
  go_wp2_with fail
  go_step3
  go_wp2_with fail
  go_step3
  go_wp2_with fail
  go_loopw [5, 6, 7, 8] (fun v5 v6 v7 v8 wr => ∃ (k i : Nat) (st : Int) (fr m : Nat), v5 = .int .i64 k ∧ v6 = .int .i64 i ∧ v7 = .int .i64 st ∧ v8 = .int .i64 fr ∧ k ≤ n ∧ i ≤ s.size ∧ fr ≤ i ∧ -1 ≤ st ∧ st ≤ n ∧ wr = w.drewN m ∧ Hid (St ths l k i st fr)) (fun v5 v6 v7 v8 _ => (s.size - (intOf v8).toNat) * (n + 1) + (n - (intOf v5).toNat))
  case atStart => exact ⟨0, 0, -1, 0, 0, rfl, rfl, rfl, rfl, by omega, by omega, by omega, by omega, by omega, rfl, (show St ths l 0 0 (-1) 0 from St.init _ _)⟩
  case round =>
    obtain ⟨k, i, st, fr, m, rfl, rfl, rfl, rfl, hk, hi, hfr, hst1, hst2, rfl, hI⟩ := hrel
    by_cases hlt : i < s.size
    · obtain ⟨d, hd⟩ : ∃ d, d = s[i]'hlt := ⟨_, rfl⟩
      have hld := (hby.out i hlt).trans (by rw [← hd])
      have hd' := hd.symm
      clear hd
      have hfS : fr < s.size := by omega
      replace hld := Lib.hid hld
      by_cases hkn : k < n
      · obtain ⟨bb, oo, v, rfl, hv, hcell⟩ := hS.out.get k hkn
        have hkn' : (k : Int) < (n : Int) := by omega
        obtain ⟨x, hx⟩ : ∃ x, ths[k]? = some x := ⟨ths[k]'(by omega), by simp [show k < ths.length by omega]⟩
        have hth := hT.out.2 k v x hv hx
        replace hx := Lib.hid hx
        clear hv
        cases x with
        | any =>
          have hv : v = .nilFunc := hth
          subst hv
          have hnew := St.star hI.out hx.out
          replace hnew := Lib.hid hnew
          go_wp2_with fail
          go_roundw
          case rel => exact ⟨k + 1, i, k, i, m, by go_num, rfl, rfl, rfl, by omega, by omega, by omega, by omega, by omega, rfl, hnew⟩
          case measure => simpa [intOf] using lex_k (S := s.size) (n := n) (fr := fr) (fr' := i) (k := k) (k' := k + 1) hfr (by omega) (by omega)
        | one =>
          have hv : v = .func (.func 46) #[] #[] := hth
          subst hv
          have hh : Th.one.has d = true := rfl
          have hnew := St.step hI.out hx.out hld.out rfl hh
          replace hnew := Lib.hid hnew
          go_wp2_with fail
          go_quiet ((go_at_call 46; exact (one_any _ _).mono (fun e w' h => ⟨h.1, _, h.2.symm⟩)))
          go_wp2_with fail
          go_roundw
          case rel => exact ⟨k + 1, i + 1, st, fr, _, by go_num, by go_num, rfl, rfl, by omega, by omega, by omega, by omega, by omega, rfl, hnew⟩
          case measure => simpa [intOf] using lex_k (S := s.size) (n := n) (fr := fr) (fr' := fr) (k := k) (k' := k + 1) (Nat.le_refl _) (by omega) (by omega)
        | lit e0 =>
          obtain ⟨b, hv, hb⟩ := hth
          subst hv
          have hcon : ∀ q, Calls Try.prog 49 #[.int .u8 d.toNat, .pointer (some ⟨b, 0, none⟩)] (w.drewN q) fun e w' => e = .returned (.bool (Th.has (.lit e0) d)) ∧ w' = w.drewN q := fun q => (lit_any e0 d b (w.drewN q) hb).mono (fun e w' h => ⟨h.1, h.2.symm⟩)
          clear hb
          cases hh : Th.has (.lit e0) d with
          | true =>
            rw [hh] at hcon
            replace hcon := Lib.hid hcon
            have hnew := St.step hI.out hx.out hld.out rfl hh
            replace hnew := Lib.hid hnew
            go_wp2_with fail
            go_quiet ((go_at_call 49; exact (hcon.out _).mono (fun e w' h => ⟨h.1, _, h.2⟩)))
            go_wp2_with fail
            go_roundw
            case rel => exact ⟨k + 1, i + 1, st, fr, _, by go_num, by go_num, rfl, rfl, by omega, by omega, by omega, by omega, by omega, rfl, hnew⟩
            case measure => simpa [intOf] using lex_k (S := s.size) (n := n) (fr := fr) (fr' := fr) (k := k) (k' := k + 1) (Nat.le_refl _) (by omega) (by omega)
          | false =>
            rw [hh] at hcon
            replace hcon := Lib.hid hcon
            have hm : Miss ths l k i := miss_has hx.out hld.out rfl hh
            by_cases hneg : st < 0
            · have hfin := St.no hneg hI.out hm
              replace hm := Lib.hid hm
              go_wp2_with fail
              go_quiet ((go_at_call 49; exact (hcon.out _).mono (fun e w' h => ⟨h.1, _, h.2⟩)))
              go_wp2_with fail
              (try rw [Exit.noGoto_ret])
              go_ret
              exact ⟨by (try rw [hfin]); (try rfl), _, rfl⟩
            · obtain ⟨s0, rfl, hs0, hnew⟩ := St.back (by omega) hI.out (by rw [hls.out]; exact hlt) hm
              replace hm := Lib.hid hm
              replace hnew := Lib.hid hnew
              have hneg' : ((s0 : Int) < 0) = False := by simp
              go_wp2_with fail
              go_quiet ((go_at_call 49; exact (hcon.out _).mono (fun e w' h => ⟨h.1, _, h.2⟩)))
              go_wp2_with fail
              go_roundw
              case rel => exact ⟨s0 + 1, fr + 1, s0, fr + 1, _, by go_num, by go_num, rfl, by go_num, by omega, by omega, by omega, by omega, by omega, rfl, hnew⟩
              case measure => simpa [intOf] using lex_f (S := s.size) (n := n) (fr := fr) (k := k) (k' := s0 + 1) hfS
        | set e0 =>
          obtain ⟨b, bs, hv, hb, hsz, hbs⟩ := hth
          subst hv
          have hcon : ∀ q, Calls Try.prog 54 #[.int .u8 d.toNat, .pointer (some ⟨b, 0, none⟩)] (w.drewN q) fun e w' => e = .returned (.bool (Th.has (.set e0) d)) ∧ w' = w.drewN q := fun q => (set1_any e0 d b bs (w.drewN q) hb hsz (hbs d)).mono (fun e w' h => ⟨h.1, h.2.symm⟩)
          clear hsz hbs
          clear hb
          cases hh : Th.has (.set e0) d with
          | true =>
            rw [hh] at hcon
            replace hcon := Lib.hid hcon
            have hnew := St.step hI.out hx.out hld.out rfl hh
            replace hnew := Lib.hid hnew
            go_wp2_with fail
            go_quiet ((go_at_call 54; exact (hcon.out _).mono (fun e w' h => ⟨h.1, _, h.2⟩)))
            go_wp2_with fail
            go_roundw
            case rel => exact ⟨k + 1, i + 1, st, fr, _, by go_num, by go_num, rfl, rfl, by omega, by omega, by omega, by omega, by omega, rfl, hnew⟩
            case measure => simpa [intOf] using lex_k (S := s.size) (n := n) (fr := fr) (fr' := fr) (k := k) (k' := k + 1) (Nat.le_refl _) (by omega) (by omega)
          | false =>
            rw [hh] at hcon
            replace hcon := Lib.hid hcon
            have hm : Miss ths l k i := miss_has hx.out hld.out rfl hh
            by_cases hneg : st < 0
            · have hfin := St.no hneg hI.out hm
              replace hm := Lib.hid hm
              go_wp2_with fail
              go_quiet ((go_at_call 54; exact (hcon.out _).mono (fun e w' h => ⟨h.1, _, h.2⟩)))
              go_wp2_with fail
              (try rw [Exit.noGoto_ret])
              go_ret
              exact ⟨by (try rw [hfin]); (try rfl), _, rfl⟩
            · obtain ⟨s0, rfl, hs0, hnew⟩ := St.back (by omega) hI.out (by rw [hls.out]; exact hlt) hm
              replace hm := Lib.hid hm
              replace hnew := Lib.hid hnew
              have hneg' : ((s0 : Int) < 0) = False := by simp
              go_wp2_with fail
              go_quiet ((go_at_call 54; exact (hcon.out _).mono (fun e w' h => ⟨h.1, _, h.2⟩)))
              go_wp2_with fail
              go_roundw
              case rel => exact ⟨s0 + 1, fr + 1, s0, fr + 1, _, by go_num, by go_num, rfl, by go_num, by omega, by omega, by omega, by omega, by omega, rfl, hnew⟩
              case measure => simpa [intOf] using lex_f (S := s.size) (n := n) (fr := fr) (k := k) (k' := s0 + 1) hfS
      · have hkf : decide ((k : Int) < (n : Int)) = false := by rw [decide_eq_false_iff_not]; omega
        have hm : Miss ths l k i := miss_end (by omega) (by rw [hls.out]; exact hlt)
        by_cases hneg : st < 0
        · have hfin := St.no hneg hI.out hm
          replace hm := Lib.hid hm
          go_wp2_with fail
          go_quiet (fail)
          go_wp2_with fail
          (try rw [Exit.noGoto_ret])
          go_ret
          exact ⟨by (try rw [hfin]); (try rfl), _, rfl⟩
        · obtain ⟨s0, rfl, hs0, hnew⟩ := St.back (by omega) hI.out (by rw [hls.out]; exact hlt) hm
          replace hm := Lib.hid hm
          replace hnew := Lib.hid hnew
          have hneg' : ((s0 : Int) < 0) = False := by simp
          go_wp2_with fail
          go_quiet (fail)
          go_wp2_with fail
          go_roundw
          case rel => exact ⟨s0 + 1, fr + 1, s0, fr + 1, _, by go_num, by go_num, rfl, by go_num, by omega, by omega, by omega, by omega, by omega, rfl, hnew⟩
          case measure => simpa [intOf] using lex_f (S := s.size) (n := n) (fr := fr) (k := k) (k' := s0 + 1) hfS
    · obtain rfl : i = s.size := by omega
      have hfin := hI.out.fin (by rw [hls.out]; omega)
      have hfin' := Lib.hid hfin
      clear hI hfin
      obtain ⟨wo, rfl⟩ : ∃ wo : World, wo = w.drewN m := ⟨_, rfl⟩
      go_wp2_with fail
      go_loopw [5] (fun v5 wx => ∃ k : Nat, v5 = .int .i64 k ∧ k ≤ n ∧ wx = w.drewN m ∧ Hid (Like ths l = Like (ths.drop k) [])) (fun v5 _ => n - (intOf v5).toNat)
      case atStart => exact ⟨k, rfl, hk, rfl, hfin'⟩
      case round =>
        obtain ⟨k, rfl, hk, rfl, hI⟩ := hrel
        by_cases hkn : k < n
        · obtain ⟨bb, oo, v, rfl, hv, hcell⟩ := hS.out.get k hkn
          have hkn' : (k : Int) < (n : Int) := by omega
          obtain ⟨x, hx⟩ : ∃ x, ths[k]? = some x := ⟨ths[k]'(by omega), by simp [show k < ths.length by omega]⟩
          have hth := hT.out.2 k v x hv hx
          cases ha : x.isAny with
          | true =>
            obtain rfl : x = .any := by cases x <;> first | rfl | (cases ha; done)
            have hv : v = .nilFunc := hth
            subst hv
            have hnew : Hid (Like ths l = Like (ths.drop (k + 1)) []) := Lib.hid (hI.out.trans (fin_any hx))
            clear hx hI
            go_wp2_with fail
            go_roundw
            case rel => exact ⟨k + 1, by go_num, by omega, trivial, hnew⟩
            case measure => simp [intOf]; omega
          | false =>
            have hres : Like ths l = false := hI.out.trans (fin_no hx ha)
            obtain ⟨f, ca, rfl⟩ : ∃ f ca, v = .func f #[] ca := by
              cases x with
              | any => cases ha
              | one => exact ⟨_, _, hth⟩
              | lit e0 => obtain ⟨b, hv, _⟩ := hth; exact ⟨_, _, hv⟩
              | set e0 => obtain ⟨b, _, hv, _⟩ := hth; exact ⟨_, _, hv⟩
            clear hx hI hth
            have hne : ((k : Int) == (n : Int)) = false := by rw [beq_eq_false_iff_ne]; omega
            go_wp2_with fail
            (try rw [Exit.noGoto_ret])
            go_ret
            exact ⟨by (try rw [hres]); (try rfl), _, rfl⟩
        · obtain rfl : k = n := by omega
          have hres : Like ths l = true := hI.out.trans (fin_all (by omega))
          clear hI
          go_wp2_with fail
          (try rw [Exit.noGoto_ret])
          go_ret
          exact ⟨by (try rw [hres]); (try rfl), _, rfl⟩
end Go.Proofs.Ytojgdmpnbgikeaa
