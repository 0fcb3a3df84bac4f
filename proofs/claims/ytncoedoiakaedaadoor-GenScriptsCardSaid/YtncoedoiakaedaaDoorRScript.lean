/- The reference of layer 19: Script, where the number and the events are right. Conditions: as it states. -/
import Derived.Test.YtncoedoiakaedaaDoorOf
import Derived.Test.YtncoedoiakaedaaDoorRPieces
import Derived.Test.YtncoedoiakaedaaDoorRQ
set_option linter.unusedVariables false
set_option linter.unusedSimpArgs false
namespace Go.Proofs.YtncoedoiakaedaaDoor
open Go.RowKit Tcl Tail Turn Tl Ev_ Ar Gn Ow
namespace Rn
theorem totT_take (T : List Tn) (i : Nat) : totT (T.take i) ≤ totT T := by
  have h := congrArg totT (List.take_append_drop i T)
  rw [totT_append] at h
  omega
theorem body_le {m : Nat} (hm : 1 ≤ m) {T : List Tn} (h1 : totT T ≤ 262144) (h2 : T.length ≤ 4097) : (bodyT m T).length ≤ 300000000000 := by
  have h := bodyT_len hm h1
  have h7 : totT T * 1048611 ≤ 262144 * 1048611 := Nat.mul_le_mul_right _ h1
  omega
theorem itoa_dec (n : Nat) : Lib.itoa (n : Int) = Lib.decDigits n := by
  unfold Lib.itoa
  rw [if_neg (by omega), Int.toNat_natCast]
theorem turns_eq (evs : List EI) : (refT (sel evs)).1 = turnsI evs := (turns_prog (sel evs)).symm
theorem bs_size (l : List UInt8) : (bstr l).size = l.length := rfl
set_option maxRecDepth 100000 in
set_option maxHeartbeats 8000000 in
theorem rscript_ok (w : World) (evs : List EI) (A : Option Addr) (n c : Nat) (cells : List Value) (en : Bool) (m : Nat) (hn : evs.length = n) (hm1 : 1 ≤ m) (hm2 : m ≤ 1048576) (hck : checkI evs = 0) (hS : Sl w 3 (.slice A n c) n cells) (hE : EvC w cells evs) :
    Calls Tryd.prog 12 #[.agg #[.slice A n c, .bool en], .int .i64 m] w fun e w' => e = .returned (.tuple #[.string (bstr (scriptT m (turnsI evs) en)), .int .i64 0]) ∧ Chg [] w w' := by
  obtain ⟨hn4, ht4⟩ := check_zero hck
  have hk1 : ¬ ((m : Nat) : Int) < 1 := by omega
  have hk2 : ¬ (1048576 : Int) < ((m : Nat) : Int) := by omega
  obtain ⟨s, hs⟩ : ∃ s, w.heap.size = s := ⟨_, rfl⟩
  obtain ⟨w1, hw1⟩ : ∃ w1, w.alloc (.cells #[.slice A n c, .bool en] 26 (0, 0)) = w1 := ⟨_, rfl⟩
  have hC1 : Chg [] w w1 := by rw [← hw1]; exact (Chg.refl [] w).alloc _
  have hb1 : w1.heap[s]? = some (.cells #[.slice A n c, .bool en] 26 (0, 0)) := by rw [← hw1, ← hs]; exact blk_new _ _
  have hch := Lib.hid (rcheck_any w1 evs A n c cells hn (hS.chg hC1 (by simp)) (hE.chg0 hC1))
  rw [hck] at hch
  have hof := Lib.hid (fun W (hW : Chg [] w1 W) => rof_any W evs A n c cells hn (by omega) ht4 (hS.chg (hC1.trans hW) (by simp)) (hE.chg0 (hC1.trans hW)))
  rw [turns_eq] at hof
  have hse := Lib.hid (show scriptT m (turnsI evs) en = hd1 ++ Lib.itoa (longT m (turnsI evs)) ++ hd2 ++ (bodyT m (turnsI evs) ++ (if en then eofl else [])) ++ ex0 from rfl)
  obtain ⟨hto1, hto2⟩ := turnsI_tot evs
  obtain ⟨T, hT⟩ : ∃ T, turnsI evs = T := ⟨_, rfl⟩
  obtain ⟨R, hR⟩ : ∃ R, scriptT m T en = R := ⟨_, rfl⟩
  rw [hT] at hof hse hto1 hto2 ⊢
  rw [hR] at hse ⊢
  have hTt : totT T ≤ 262144 := by omega
  have hTl : T.length ≤ 4097 := by omega
  have a0 : w1.cell? ⟨s, 0, none⟩ = some (.slice A n c) := by simp [World.cell?, hb1]
  replace hn := Lib.hid hn
  replace hC1 := Lib.hid hC1
  replace hb1 := Lib.hid hb1
  clear hS hE hck hT hR hto1 hto2
  go_enter Tryd.func12, Tryd.ntmps12
  go_wp2_with fail
  refine hch.out.mono ?_
  rintro e w2 ⟨rfl, hC2⟩
  have hb2 : w2.heap[s]? = some (.cells #[.slice A n c, .bool en] 26 (0, 0)) := hC2.heap hb1.out (by simp)
  have a1 : w2.cell? ⟨s, 0, none⟩ = some (.slice A n c) := by simp [World.cell?, hb2]
  have ho := Lib.hid (hof.out w2 hC2)
  replace hb2 := Lib.hid hb2
  replace hC2 := Lib.hid hC2
  clear hch hof a0 hw1
  go_wp2_with fail
  refine ho.out.mono ?_
  rintro e w3 ⟨A3, c3, cs3, rfl, hO⟩
  have hb3 := hO.C.heap hb2.out (by simp)
  have hC3 : Hid (Chg [] w w3) := Lib.hid ((hC1.out.trans hC2.out).trans hO.C)
  replace hb3 := Lib.hid hb3
  obtain ⟨k, hk⟩ : ∃ k, T.length = k := ⟨_, rfl⟩
  rw [hk] at hO ⊢
  replace hO := Lib.hid hO
  clear ho hb2 hC2 a1 hb1 hC1
  go_wp2_with fail
  go_loopg [7, 8, 10, 11, 12] k (fun gk v7 v8 v10 v11 v12 wr => ∃ (i : Nat) (Z : ByteArray), v10 = .int .i64 i ∧ v7 = .string Z ∧ v8 = .int .i64 (longT m (T.take i) : Nat) ∧ i ≤ k ∧ gk = k - i ∧ Hid (Z = bstr (bodyT m (T.take i))) ∧ Hid (Chg [] w3 wr))
  case atStart => exact ⟨0, _, rfl, rfl, rfl, by omega, by omega, Lib.hid rfl, Lib.hid (Chg.refl _ _)⟩
  case round =>
    obtain ⟨i, Z, rfl, rfl, rfl, hi, rfl, hZ, hC⟩ := hrel
    have hbl := body_le hm1 (T := T.take i) (Nat.le_trans (totT_take T i) hTt) (by rw [List.length_take]; omega)
    have hll := longT_le hm1 (ts := T.take i) (Nat.le_trans (totT_take T i) hTt)
    obtain ⟨X, hX⟩ : ∃ X, bodyT m (T.take i) = X := ⟨_, rfl⟩
    obtain ⟨lg, hlg⟩ : ∃ lg, longT m (T.take i) = lg := ⟨_, rfl⟩
    rw [hX] at hZ hbl
    rw [hlg] at hll ⊢
    have hZs : Z.size = X.length := by rw [hZ.out]; rfl
    by_cases hlt : i < k
    · obtain ⟨t, ht⟩ : ∃ t, T[i]? = some t := ⟨_, List.getElem?_eq_getElem (by omega)⟩
      have hOc := hO.out.chg hC.out
      obtain ⟨hf1, hf2⟩ := flat_get ht
      obtain ⟨g3, rfl, hg3⟩ := own_some hOc.own (by omega)
      obtain ⟨Ao, co, ho1, ho2⟩ := hOc.rw.2.1 _ _ hf1
      obtain ⟨Ai, ci, hi1, hi2⟩ := hOc.rw.2.1 _ _ hf2
      have x0 := (own_cell hOc.own ho1).1
      have hX2 : Hid (bodyT m (T.take (i + 1)) = X ++ turnT m t) := Lib.hid (by rw [List.take_add_one, ht, ← hX]; exact bodyT_snoc m _ t)
      have hlg2 : Hid (longT m (T.take (i + 1)) = longP lg (pieces t.1 m)) := Lib.hid (by rw [List.take_add_one, ht, ← hlg]; exact longT_snoc m _ t)
      have htt : t.1.length + t.2.length ≤ 262144 := Nat.le_trans (mem_tot (List.mem_of_getElem? ht)) hTt
      obtain ⟨o, ii⟩ := t
      simp only at ho2 hi2 htt x0 ho1 hi1
      have hso := own_sl ho2
      have hsi := own_sl hi2
      have hpc := Lib.hid (rpieces_any wr o Ao o.length co m rfl (by omega) hm1 hm2 hso)
      have hpl := pieces_le (t := o) hm1
      have htn : Hid (turnT m (o, ii) = ((pieces o m).map pieceT).flatten ++ sendT ii) := Lib.hid rfl
      obtain ⟨ps, hps⟩ : ∃ ps, pieces o m = ps := ⟨_, rfl⟩
      rw [hps] at hpc hpl htn
      obtain ⟨pk, hpk⟩ : ∃ pk, ps.length = pk := ⟨_, rfl⟩
      rw [hpk] at hpc hpl
      have hi1c : Hid (∀ W, Chg [] wr W → W.cell? ⟨g3, i * 2 + 1, none⟩ = some (.slice Ai ii.length ci) ∧ Sl W 1 (.slice Ai ii.length ci) ii.length (cellsOf .u8 (nums ii))) := Lib.hid (fun W hW => ⟨hW.cell (own_cell hOc.own hi1).1 (by simp), hsi.chg hW (by simp)⟩)
      replace hpl := Lib.hid hpl
      replace hpk := Lib.hid hpk
      replace hps := Lib.hid hps
      replace hX := Lib.hid hX
      replace hlg := Lib.hid hlg
      have hik : (i : Int) < (k : Int) := by omega
      clear hOc hf1 hf2 ho1 ho2 hi1 hi2 hso hsi ht
      go_wp2_with fail
      refine hpc.out.mono ?_
      rintro e w4 ⟨Ap, cp, rfl, ⟨cs4, hbg⟩, hC4⟩
      try rw [hpk.out] at hbg
      have hC4' := Lib.hid (hC.out.trans hC4)
      replace hC4 := Lib.hid hC4
      replace hbg := Lib.hid hbg
      have hpk9 : pk ≤ 262144 := by have := hpl.out.1; omega
      clear hpc x0
      go_wp2_with fail
      go_loopg [7, 8, 12] pk (fun gk v7 v8 v12 wq => ∃ (j : Nat) (Y : ByteArray), v12 = .int .i64 j ∧ v7 = .string Y ∧ v8 = .int .i64 (longP lg (ps.take j) : Nat) ∧ j ≤ pk ∧ gk = pk - j ∧ Hid (Y = bstr (X ++ ((ps.take j).map pieceT).flatten)) ∧ Hid (Chg [] w4 wq))
      case atStart => exact ⟨0, Z, rfl, rfl, rfl, by omega, by omega, Lib.hid (by rw [hZ.out]; simp), Lib.hid (Chg.refl _ _)⟩
      case round =>
        obtain ⟨j, Y, rfl, rfl, rfl, hj, rfl, hY, hCq⟩ := hrel
        have hflat : (((ps.take j).map pieceT).flatten).length ≤ 300000000000 := by
          have h3 := flatten_le (l := (ps.take j).map pieceT) (c := 1048611) (fun z hz => by
            simp only [List.mem_map] at hz
            obtain ⟨p, hp, rfl⟩ := hz
            have h4 := pieceT_len p
            have h5 := (hpl.out.2 p (List.mem_of_mem_take hp)).1
            omega)
          rw [List.length_map, List.length_take] at h3
          have h6 : min j ps.length * 1048611 ≤ 262144 * 1048611 := Nat.mul_le_mul_right _ (by omega)
          omega
        have hlle := longP_le (a := lg) (c := 262144) hll (ps := ps.take j) (fun p hp => by have := (hpl.out.2 p (List.mem_of_mem_take hp)).1; omega)
        obtain ⟨V, hV⟩ : ∃ V, X ++ ((ps.take j).map pieceT).flatten = V := ⟨_, rfl⟩
        have hVl : V.length ≤ 600000000000 := by rw [← hV, List.length_append]; omega
        obtain ⟨lj, hlj⟩ : ∃ lj, longP lg (ps.take j) = lj := ⟨_, rfl⟩
        rw [hlj] at hlle ⊢
        rw [hV] at hY
        have hYs : Y.size = V.length := by rw [hY.out]; rfl
        by_cases hlj2 : j < pk
        · obtain ⟨x, hx⟩ : ∃ x, ps[j]? = some x := ⟨_, List.getElem?_eq_getElem (by rw [hpk.out]; exact hlj2)⟩
          have hbq := hbg.out.chg hCq.out
          obtain ⟨gp, rfl, hgp⟩ := own_some (by have := hbq.1; rw [hpk.out] at this; exact this) (show 0 < pk by omega)
          obtain ⟨Aj, cj, hcj, hsj, -⟩ := hbq.2 j x hx
          have hbq1 := hbq.1
          rw [hpk.out] at hbq1
          have e1 := (own_cell hbq1 hcj).1
          have hxl := (hpl.out.2 x (List.mem_of_getElem? hx)).1
          have hqt := Lib.hid (fun W (hW : Chg [] wr W) => rquote_any x (by omega) Aj cj W (hsj.chg hW (by simp)))
          have htk : ps.take (j + 1) = ps.take j ++ [x] := by rw [List.take_add_one, hx]; rfl
          have hV2 : Hid (X ++ ((ps.take (j + 1)).map pieceT).flatten = V ++ pieceT x) := Lib.hid (by rw [htk, List.map_append, List.flatten_append, ← hV, List.append_assoc]; simp)
          have hlj3 : Hid (longP lg (ps.take (j + 1)) = max lj x.length) := Lib.hid (by rw [htk, longP_snoc, hlj])
          have hql := Bl.quoteQ_len x
          have hji : (j : Int) < (pk : Int) := by omega
          obtain ⟨B, hB⟩ : ∃ B, bstr (quoteQ x) = B := ⟨_, rfl⟩
          have hBs : B.size = (quoteQ x).length := by rw [← hB]; rfl
          have hcat : Hid (Y ++ (⟨#[101, 120, 112, 101, 99, 116, 32, 123, 45, 101, 120, 97, 99, 116, 32]⟩ : ByteArray) ++ B ++ (⟨#[32, 123, 125, 32, 101, 111, 102, 32, 123, 101, 120, 105, 116, 32, 49, 125, 125, 10]⟩ : ByteArray) = bstr (V ++ pieceT x)) := Lib.hid (by
            rw [hY.out, ← hB]
            show bstr V ++ bstr exp1 ++ bstr (quoteQ x) ++ bstr exp2 = _
            rw [bstr_app, bstr_app, bstr_app]
            unfold pieceT
            simp only [List.append_assoc])
          rw [hB] at hqt
          have p1 : ¬ (9223372036854775807 < (Y).size + ((⟨#[101, 120, 112, 101, 99, 116, 32, 123, 45, 101, 120, 97, 99, 116, 32]⟩ : ByteArray)).size) := by rw [hYs]; show ¬ (_ < _ + 15); omega
          have p2 : ¬ (9223372036854775807 < (Y ++ (⟨#[101, 120, 112, 101, 99, 116, 32, 123, 45, 101, 120, 97, 99, 116, 32]⟩ : ByteArray)).size + (B).size) := by rw [ByteArray.size_append, hYs, hBs]; show ¬ (_ < _ + 15 + _); omega
          have p3 : ¬ (9223372036854775807 < (Y ++ (⟨#[101, 120, 112, 101, 99, 116, 32, 123, 45, 101, 120, 97, 99, 116, 32]⟩ : ByteArray) ++ B).size + ((⟨#[32, 123, 125, 32, 101, 111, 102, 32, 123, 101, 120, 105, 116, 32, 49, 125, 125, 10]⟩ : ByteArray)).size) := by rw [ByteArray.size_append, ByteArray.size_append, hYs, hBs]; show ¬ (_ < _ + 15 + _ + 18); omega
          replace hB := Lib.hid hB
          clear hbq hbq1 hcj hsj hx htk hV hlj
          go_wp2_with fail
          refine (hqt.out _ (Chg.refl _ _)).mono ?_
          rintro e w5 ⟨rfl, hC5⟩
          have e2 := hC5.cell e1 (by simp)
          have hC6 := Lib.hid (hCq.out.trans hC5)
          clear hqt hC5 hCq e1
          rcases Nat.lt_or_ge lj x.length with hcm | hcm
          · have hmq : ((lj : Nat) : Int) < (x.length : Int) := by omega
            rw [Nat.max_eq_right (by omega)] at hlj3
            go_wp2_with fail
            go_roundg (pk - (j + 1))
            case measure => omega
            case rel => exact ⟨j + 1, _, by go_num, rfl, by rw [hlj3.out], by omega, rfl, Lib.hid (by rw [hV2.out]; exact hcat.out), hC6⟩
          · have hmq : ¬ ((lj : Nat) : Int) < (x.length : Int) := by omega
            rw [Nat.max_eq_left (by omega)] at hlj3
            go_wp2_with fail
            go_roundg (pk - (j + 1))
            case measure => omega
            case rel => exact ⟨j + 1, _, by go_num, rfl, by rw [hlj3.out], by omega, rfl, Lib.hid (by rw [hV2.out]; exact hcat.out), hC6⟩
        · obtain rfl : j = pk := by omega
          have htk : ps.take j = ps := List.take_of_length_le (by rw [hpk.out]; exact Nat.le_refl _)
          obtain ⟨y1, hsi⟩ := hi1c.out wr (hC4.out.trans hCq.out)
          have hlf : Hid (longT m (T.take (i + 1)) = lj) := Lib.hid ((hlg2.out.trans (congrArg (longP lg) hps.out)).trans (by rw [← htk]; exact hlj))
          have hCz := Lib.hid (hC4'.out.trans hCq.out)
          have hVf : V = X ++ (ps.map pieceT).flatten := by rw [← hV, htk]
          by_cases hi0 : ii = []
          · have hnp : ¬ (0 : Int) < (ii.length : Int) := by rw [hi0]; simp
            have hXf : Hid (Y = bstr (bodyT m (T.take (i + 1)))) := Lib.hid (by rw [hX2.out, htn.out, hY.out, hVf]; unfold sendT; rw [if_pos hi0, List.append_nil])
            clear hV hVf hlj htk hsi
            go_wp2_with fail
            go_roundg (k - (i + 1))
            case measure => omega
            case rel => exact ⟨i + 1, Y, by go_num, rfl, by rw [hlf.out], by omega, rfl, hXf, hCz⟩
          · have hpos : (0 : Int) < (ii.length : Int) := by have := List.length_pos_iff.2 hi0; omega
            have hqt := Lib.hid (rquote_any ii (by omega) Ai ci wr hsi)
            have hql := Bl.quoteQ_len ii
            obtain ⟨B, hB⟩ : ∃ B, bstr (quoteQ ii) = B := ⟨_, rfl⟩
            have hBs : B.size = (quoteQ ii).length := by rw [← hB]; rfl
            have hXf : Hid (Y ++ (⟨#[115, 101, 110, 100, 32]⟩ : ByteArray) ++ B ++ (⟨#[10]⟩ : ByteArray) = bstr (bodyT m (T.take (i + 1)))) := Lib.hid (by
              rw [hX2.out, htn.out, hY.out, hVf, ← hB]
              show bstr _ ++ bstr snd1 ++ bstr (quoteQ ii) ++ bstr [10] = _
              rw [bstr_app, bstr_app, bstr_app]
              unfold sendT
              rw [if_neg hi0]
              simp only [List.append_assoc])
            rw [hB] at hqt
            have p1 : ¬ (9223372036854775807 < (Y).size + ((⟨#[115, 101, 110, 100, 32]⟩ : ByteArray)).size) := by rw [hYs]; show ¬ (_ < _ + 5); omega
            have p2 : ¬ (9223372036854775807 < (Y ++ (⟨#[115, 101, 110, 100, 32]⟩ : ByteArray)).size + (B).size) := by rw [ByteArray.size_append, hYs, hBs]; show ¬ (_ < _ + 5 + _); omega
            have p3 : ¬ (9223372036854775807 < (Y ++ (⟨#[115, 101, 110, 100, 32]⟩ : ByteArray) ++ B).size + ((⟨#[10]⟩ : ByteArray)).size) := by rw [ByteArray.size_append, ByteArray.size_append, hYs, hBs]; show ¬ (_ < _ + 5 + _ + 1); omega
            have hik2 : (i : Int) < (k : Int) := hik
            replace hB := Lib.hid hB
            clear hV hVf hlj htk hsi
            go_wp2_with fail
            refine hqt.out.mono ?_
            rintro e w5 ⟨rfl, hC5⟩
            have hC6 := Lib.hid (hCz.out.trans hC5)
            clear hqt hC5
            go_wp2_with fail
            go_roundg (k - (i + 1))
            case measure => omega
            case rel => exact ⟨i + 1, _, by go_num, rfl, by rw [hlf.out], by omega, rfl, hXf, hC6⟩
    · obtain rfl : i = k := by omega
      have htk : T.take i = T := List.take_of_length_le (by omega)
      have hbk := hC.out.heap hb3.out (by simp)
      have x1 : wr.cell? ⟨s, 1, none⟩ = some (.bool en) := by simp [World.cell?, hbk]
      have hdg := Lib.hid (digits_any lg (by omega) wr)
      have hdl := dec_len lg
      obtain ⟨dg, hdgx⟩ : ∃ dg, Lib.decDigits lg = dg := ⟨_, rfl⟩
      rw [hdgx] at hdg hdl
      obtain ⟨B, hB⟩ : ∃ B, bstr dg = B := ⟨_, rfl⟩
      have hBs : B.size = dg.length := by rw [← hB]; rfl
      rw [hB] at hdg
      have hCf := Lib.hid (hC3.out.trans hC.out)
      cases en with
      | true =>
        have hfin : Hid ((⟨#[109, 97, 116, 99, 104, 95, 109, 97, 120, 32]⟩ : ByteArray) ++ B ++ (⟨#[10, 115, 101, 116, 32, 116, 105, 109, 101, 111, 117, 116, 32, 45, 49, 10, 115, 112, 97, 119, 110, 32, 112, 101, 101, 114, 10]⟩ : ByteArray) ++ (Z ++ (⟨#[101, 120, 112, 101, 99, 116, 32, 101, 111, 102, 10]⟩ : ByteArray)) ++ (⟨#[101, 120, 105, 116, 32, 48, 10]⟩ : ByteArray) = bstr R) := Lib.hid (by
          rw [hse.out, ← htk, hX, hlg, itoa_dec, hdgx, ← hB, hZ.out]
          show bstr hd1 ++ bstr dg ++ bstr hd2 ++ (bstr X ++ bstr eofl) ++ bstr ex0 = _
          rw [bstr_app, bstr_app, bstr_app, bstr_app, bstr_app]
          rfl)
        have r1 : ¬ (9223372036854775807 < Z.size + ((⟨#[101, 120, 112, 101, 99, 116, 32, 101, 111, 102, 10]⟩ : ByteArray)).size) := by rw [hZs]; show ¬ (_ < _ + 11); omega
        have hZe : (Z ++ (⟨#[101, 120, 112, 101, 99, 116, 32, 101, 111, 102, 10]⟩ : ByteArray)).size = X.length + 11 := by rw [ByteArray.size_append, hZs]; rfl
        have p1 : ¬ (9223372036854775807 < ((⟨#[109, 97, 116, 99, 104, 95, 109, 97, 120, 32]⟩ : ByteArray)).size + (B).size) := by rw [hBs]; show ¬ (_ < 10 + _); omega
        have p2 : ¬ (9223372036854775807 < ((⟨#[109, 97, 116, 99, 104, 95, 109, 97, 120, 32]⟩ : ByteArray) ++ B).size + ((⟨#[10, 115, 101, 116, 32, 116, 105, 109, 101, 111, 117, 116, 32, 45, 49, 10, 115, 112, 97, 119, 110, 32, 112, 101, 101, 114, 10]⟩ : ByteArray)).size) := by rw [ByteArray.size_append, hBs]; show ¬ (_ < 10 + _ + 27); omega
        have p3 : ¬ (9223372036854775807 < ((⟨#[109, 97, 116, 99, 104, 95, 109, 97, 120, 32]⟩ : ByteArray) ++ B ++ (⟨#[10, 115, 101, 116, 32, 116, 105, 109, 101, 111, 117, 116, 32, 45, 49, 10, 115, 112, 97, 119, 110, 32, 112, 101, 101, 114, 10]⟩ : ByteArray)).size + ((Z ++ (⟨#[101, 120, 112, 101, 99, 116, 32, 101, 111, 102, 10]⟩ : ByteArray))).size) := by rw [ByteArray.size_append, ByteArray.size_append, hBs, hZe]; show ¬ (_ < 10 + _ + 27 + _); omega
        have p4 : ¬ (9223372036854775807 < ((⟨#[109, 97, 116, 99, 104, 95, 109, 97, 120, 32]⟩ : ByteArray) ++ B ++ (⟨#[10, 115, 101, 116, 32, 116, 105, 109, 101, 111, 117, 116, 32, 45, 49, 10, 115, 112, 97, 119, 110, 32, 112, 101, 101, 114, 10]⟩ : ByteArray) ++ (Z ++ (⟨#[101, 120, 112, 101, 99, 116, 32, 101, 111, 102, 10]⟩ : ByteArray))).size + ((⟨#[101, 120, 105, 116, 32, 48, 10]⟩ : ByteArray)).size) := by rw [ByteArray.size_append, ByteArray.size_append, ByteArray.size_append, hBs, hZe]; show ¬ (_ < 10 + _ + 27 + _ + 7); omega
        clear hB hdgx hO hbk hC hX hlg htk
        go_wp2_with fail
        refine hdg.out.mono ?_
        rintro e w5 ⟨rfl, hC5⟩
        have hCz := Lib.hid (hCf.out.trans hC5)
        clear hdg hC5
        go_wp2_with fail
        go_ret2
        exact ⟨congrArg (fun z => Ending.returned (Value.tuple #[Value.string z, .int .i64 0])) hfin.out, hCz.out⟩
      | false =>
        have hfin : Hid ((⟨#[109, 97, 116, 99, 104, 95, 109, 97, 120, 32]⟩ : ByteArray) ++ B ++ (⟨#[10, 115, 101, 116, 32, 116, 105, 109, 101, 111, 117, 116, 32, 45, 49, 10, 115, 112, 97, 119, 110, 32, 112, 101, 101, 114, 10]⟩ : ByteArray) ++ Z ++ (⟨#[101, 120, 105, 116, 32, 48, 10]⟩ : ByteArray) = bstr R) := Lib.hid (by
          rw [hse.out, ← htk, hX, hlg, itoa_dec, hdgx, ← hB, hZ.out]
          show bstr hd1 ++ bstr dg ++ bstr hd2 ++ bstr X ++ bstr ex0 = _
          rw [bstr_app, bstr_app, bstr_app, bstr_app]
          simp)
        have p1 : ¬ (9223372036854775807 < ((⟨#[109, 97, 116, 99, 104, 95, 109, 97, 120, 32]⟩ : ByteArray)).size + (B).size) := by rw [hBs]; show ¬ (_ < 10 + _); omega
        have p2 : ¬ (9223372036854775807 < ((⟨#[109, 97, 116, 99, 104, 95, 109, 97, 120, 32]⟩ : ByteArray) ++ B).size + ((⟨#[10, 115, 101, 116, 32, 116, 105, 109, 101, 111, 117, 116, 32, 45, 49, 10, 115, 112, 97, 119, 110, 32, 112, 101, 101, 114, 10]⟩ : ByteArray)).size) := by rw [ByteArray.size_append, hBs]; show ¬ (_ < 10 + _ + 27); omega
        have p3 : ¬ (9223372036854775807 < ((⟨#[109, 97, 116, 99, 104, 95, 109, 97, 120, 32]⟩ : ByteArray) ++ B ++ (⟨#[10, 115, 101, 116, 32, 116, 105, 109, 101, 111, 117, 116, 32, 45, 49, 10, 115, 112, 97, 119, 110, 32, 112, 101, 101, 114, 10]⟩ : ByteArray)).size + (Z).size) := by rw [ByteArray.size_append, ByteArray.size_append, hBs, hZs]; show ¬ (_ < 10 + _ + 27 + _); omega
        have p4 : ¬ (9223372036854775807 < ((⟨#[109, 97, 116, 99, 104, 95, 109, 97, 120, 32]⟩ : ByteArray) ++ B ++ (⟨#[10, 115, 101, 116, 32, 116, 105, 109, 101, 111, 117, 116, 32, 45, 49, 10, 115, 112, 97, 119, 110, 32, 112, 101, 101, 114, 10]⟩ : ByteArray) ++ Z).size + ((⟨#[101, 120, 105, 116, 32, 48, 10]⟩ : ByteArray)).size) := by rw [ByteArray.size_append, ByteArray.size_append, ByteArray.size_append, hBs, hZs]; show ¬ (_ < 10 + _ + 27 + _ + 7); omega
        clear hB hdgx hO hbk hC hX hlg htk
        go_wp2_with fail
        refine hdg.out.mono ?_
        rintro e w5 ⟨rfl, hC5⟩
        have hCz := Lib.hid (hCf.out.trans hC5)
        clear hdg hC5
        go_wp2_with fail
        go_ret2
        exact ⟨congrArg (fun z => Ending.returned (Value.tuple #[Value.string z, .int .i64 0])) hfin.out, hCz.out⟩
end Rn
end Go.Proofs.YtncoedoiakaedaaDoor
