/- Contract of package tcl's Parse. Conditions: as it states. -/
import Derived.Test.YtakcolililbkjaaTclCmd
set_option linter.unusedVariables false
set_option linter.unusedSimpArgs false
namespace Go.Proofs.Ytakcolililbkjaa
open Go.RowKit Tcl
theorem Try.info_command : (Try.prog.info? 69).map (fun i => (i.zero, i.size, i.bytes)) = some (some (.agg #[.int .i64 0, .slice none 0 0]), 2, 32) := by kernel_rfl
theorem lineLen_find (l : List UInt8) : lineLen l = match l.findIdx? (· == 10) with | none => l.length | some n => n := by
  induction l with
  | nil => rfl
  | cons b l ih =>
    rw [lineLen, List.findIdx?_cons]
    by_cases h : b = 10
    · subst h; simp
    · rw [if_neg h, if_neg (by simpa using h), ih]
      cases l.findIdx? (· == 10) with
      | none => simp
      | some n => simp
theorem line_n (s : List UInt8) (i : Nat) (w : World) :
    Calls Try.prog 41 #[.string ((bstr s).extract i (bstr s).size), .int .u8 10] w fun e w' => e = .returned (.int .i64 (if lineLen (s.drop i) = s.length - i then -1 else (lineLen (s.drop i) : Int))) ∧ w = w' := by
  have e1 : (bstr s).extract i (bstr s).size = bstr (s.drop i) := by rw [extract_bstr, sub, bstr_size, List.take_length]
  rw [e1]
  refine (index_any (bstr (s.drop i)) 10 w).mono ?_
  rintro e w' ⟨rfl, rfl⟩
  refine ⟨?_, rfl⟩
  rw [bstr_list, index_find, show (Int.toNat 10).toUInt8 = 10 from rfl, lineLen_find]
  cases h : (s.drop i).findIdx? (· == 10) with
  | none => simp
  | some n =>
    have hn : n < (s.drop i).length := (List.findIdx?_eq_some_iff_findIdx_eq.1 h).1
    rw [List.length_drop] at hn
    simp only
    rw [if_neg (by omega)]
/-- What `Parse` tells. -/
def PaRes (w : World) (s : List UInt8) (e : Ending) (w' : World) : Prop :=
  Chg [] w w' ∧ ((∃ A n c xs cs, e = .returned (.tuple #[.slice A n c, .int .i64 0, .int .i64 0]) ∧ parse s = .ok cs ∧ n = cs.length ∧ Sl w' 2 (.slice A n c) n xs ∧ CmdsAt w' w.heap.size (Value.slice A n c).ownBlock xs cs ∧ (∀ q, (Value.slice A n c).ownBlock = some q → w.heap.size ≤ q) ∧ n ≤ s.length)
    ∨ (∃ p q : Nat, e = .returned (.tuple #[.slice none 0 0, .int .i64 p, .int .i64 q]) ∧ parse s = .error (p, q) ∧ q ≠ 0))
/-- What holds behind a command. -/
theorem pa_cmd {w w1 w3 : World} {g : Nat} {s : List UInt8} {B : ByteArray} {i : Nat} {c : UInt8} {A A2 : Option Addr} {n cc n2 c2 : Nat} {xs : List Value} {cs : List Cmd}
    (hB : bstr s = B) (hsc : s[i]? = some c) (hstp : stopB c = false) (hst : parseGo s 0 [] = match command s i [] with | .error b => .error b | .ok (ws, j) => if i < j then parseGo s j (cs ++ [⟨i, ws⟩]) else .error (0, 0))
    (hX : CmdsAt w1 (w.heap.size + 1) (Value.slice A n cc).ownBlock xs cs) (hO : w1.ownsRow w.heap.size 69 2 (.slice A n cc) n xs) (hg : g = w.heap.size) (hlen : cs.length = n) (hni : n ≤ i) (hP : PS w1 g B i 0 0) (hC3 : Chg [g] w1 w3)
    (hcase : (∃ ws j ys, command s i [] = .ok (ws, j) ∧ PS w3 g (bstr s) j 0 0 ∧ n2 = ws.length ∧ Sl w3 3 (.slice A2 n2 c2) n2 ys ∧ WordsAt w3 w1.heap.size (Value.slice A2 n2 c2).ownBlock ys ws ∧ ∀ q, (Value.slice A2 n2 c2).ownBlock = some q → w1.heap.size ≤ q)
      ∨ (∃ p q : Nat, command s i [] = .error (p, q) ∧ PS w3 g (bstr s) s.length p q ∧ q ≠ 0)) :
    ∃ gk, PaMid w w3 g s B (Value.slice A n cc).ownBlock xs n [.int .i64 i, .slice A2 n2 c2] gk ∧ gk < s.length - i ∧ w3.ownsRow w.heap.size 69 2 (.slice A n cc) n xs := by
  have hil := lt_of_some hsc
  have hend : endB c = false := by simp [stopB] at hstp; exact hstp.2
  have hgw : g < w1.heap.size := lt_heap hP
  have hgr : (Value.slice A n cc).ownBlock ≠ some g := own_not hO hP (by decide)
  have h1 : ∀ q, (Value.slice A n cc).ownBlock = some q → q ∉ [g] := fun q hq hm => by simp at hm; subst hm; exact hgr hq
  suffices h : ∃ gk, PaMid w w3 g s B (Value.slice A n cc).ownBlock xs n [.int .i64 i, .slice A2 n2 c2] gk ∧ gk < s.length - i by
    obtain ⟨gk, h2, h3⟩ := h
    exact ⟨gk, h2, h3, own_chg hO hC3 h1⟩
  rw [hB] at hcase
  rcases hcase with ⟨ws, j, ys, hw, hPj, rfl, h3, h4, h5⟩ | ⟨p, q, hw, hPj, hq⟩
  · have hb := command_bound s (s.length - i) i [] ws j (Nat.le_refl _) (by omega) hw
    have hm := command_more hsc hend hw
    rw [hw] at hst
    simp only [if_pos hm] at hst
    refine ⟨s.length - j, .inl ⟨j, cs, ⟨i, ws⟩, A2, c2, ys, hPj, hX.chg hC3 (by intro k hk; simp at hk; omega), hlen, hst, hb.2.1, by omega, rfl, rfl, h3, h4.old (by omega) (fun q hq => (hO.lt q hq).2), fun q h0 hq => ?_⟩, by omega⟩
    have h6 := h5 q hq
    exact ⟨by omega, fun e => by have := (hO.lt q e).2; omega⟩
  · rw [hw] at hst
    exact ⟨0, .inr ⟨p, q, hPj, hst, hq, rfl⟩, by omega⟩
set_option maxRecDepth 100000 in
set_option maxHeartbeats 16000000 in
theorem parse_any (w : World) (s : List UInt8) (hs63 : s.length ≤ 4611686018427387904) : Calls Try.prog 25 #[.string (bstr s)] w (PaRes w s) := by
  have hsz : (bstr s).size = s.length := rfl
  obtain ⟨B, hB⟩ : ∃ B, bstr s = B := ⟨_, rfl⟩
  have hby : ∀ i (h : i < B.size), s[i]? = some (B[i]'h) := by rw [← hB]; exact fun i h => byte_of h
  unfold PaRes
  by_cases hs : 16777216 < s.length
  · have hE : Hid (parse s = .error (0, 6)) := Lib.hid (by unfold parse; rw [if_pos hs])
    rw [hB] at hsz ⊢
    have hdec : decide ((16777216 : Int) < (s.length : Int)) = true := by simp; omega
    go_enter Try.func25, Try.ntmps25
    go_wp2_with fail
    go_ret3
    exact ⟨Chg.refl _ _, .inr ⟨0, 6, rfl, hE.out, by decide⟩⟩
  have hE0 : Hid (parse s = parseGo s 0 []) := Lib.hid (by unfold parse; rw [if_neg hs])
  have hcmd := Lib.hid (fun W g (i : Nat) (hi : i ≤ s.length) (hP : PS W g (bstr s) i 0 0) => command_any W g s i 0 (by omega) hi hP)
  have hln := Lib.hid (fun i W => line_n s i W)
  rw [hB] at hsz hcmd hln ⊢
  rw [hsz] at hln
  replace hby := Lib.hid hby
  have hdec : decide ((16777216 : Int) < (s.length : Int)) = false := by simp; omega
  have hP : Hid (PS (w.alloc (.cells #[.string B, .int .i64 0, .int .i64 0, .int .i64 0] 104)) w.heap.size B (0 : Nat) 0 0) := Lib.hid (blk_new _ _)
  have hC : Hid (Chg [] w (w.alloc (.cells #[.string B, .int .i64 0, .int .i64 0, .int .i64 0] 104))) := Lib.hid ((Chg.refl [] w).alloc _)
  obtain ⟨g, hg⟩ : ∃ g, w.heap.size = g := ⟨_, rfl⟩
  go_enter Try.func25, Try.ntmps25
  go_wp2_with fail
  rw [hg] at hP
  generalize w.alloc _ = w1 at hP hC ⊢
  go_loopg [6] s.length (fun gk v6 wr => ∃ (A : Option Addr) (n cc : Nat) (xs : List Value), v6 = .slice A n cc ∧ wr.ownsRow w.heap.size 69 2 (.slice A n cc) n xs ∧ Chg [] w wr ∧ PaGo w wr g s B (Value.slice A n cc).ownBlock xs n gk)
  case atStart => exact ⟨none, 0, 0, [], rfl, World.ownsRow_nil _ _ _ _, hC.out, .inl ⟨0, [], hP.out, CmdsAt.nil _ _ _, rfl, rfl, by omega, by omega, rfl⟩⟩
  case round =>
    clear hP hC
    obtain ⟨A, n, cc, xs, rfl, hO, hC, hgo⟩ := hrel
    replace hO := Lib.hid hO
    replace hC := Lib.hid hC
    rcases hgo with ⟨i, cs, hP, hX, hlen, hpg, hil, hni, rfl⟩ | ⟨p, q, hP, hpg, hq0, rfl⟩
    · replace hP := Lib.hid hP
      replace hX := Lib.hid hX
      replace hlen := Lib.hid hlen
      obtain ⟨c0, c1, c2, c3⟩ := hP.out.c0
      have f1 := hP.out.f0 1

      by_cases hlt : i < s.length
      · have hlB : i < B.size := by omega
        obtain ⟨c, hc⟩ : ∃ c, B[i]'hlB = c := ⟨_, rfl⟩
        have hsc : s[i]? = some c := by rw [hby.out i hlB, hc]
        have hstep := Lib.hid (hpg.trans (parse_some hsc))
        clear hpg
        cases hcs : stopB c with
        | true =>
          have hst2 := Lib.hid (hstep.out.trans (if_pos hcs))
          have hin := Lib.hid (fun W => in_any ⟨#[32, 9, 10, 59]⟩ c true (in_stops c true hcs) W)
          have hwr : IntKind.i64.wrap ((i : Int) + 1) = (i : Int) + 1 := IntWalk.i64_in _ (by omega)
          clear hstep
          go_wp2_with fail
          refine (hin.out _).mono ?_
          rintro e w' ⟨rfl, rfl⟩
          go_wp2_with fail
          go_roundg (s.length - (i + 1))
          case measure => omega
          case rel =>
            have hcs : Chg [g] wr (wr.setCell ⟨g, 1, none⟩ (.int .i64 ((i : Int) + 1))) := (Chg.refl [g] _).setCell (.inl (by simp)) _
            exact ⟨A, n, cc, xs, rfl, own_chg hO.out hcs (fun k hk hm => own_not hO.out hP.out (by decide) (by simp at hm; rw [hm] at hk; exact hk)), hC.out.then hcs (by intro x hx; simp at hx; omega),
              .inl ⟨i + 1, cs, hP.out.put ((i : Int) + 1), hX.out.chg hcs (by intro k hk; simp at hk; omega), hlen.out, hst2.out, by omega, by omega, rfl⟩⟩
        | false =>
          have hst1 := hstep.out.trans (if_neg (by rw [hcs]; decide))
          have hin := Lib.hid (fun W => in_any ⟨#[32, 9, 10, 59]⟩ c false (in_stops c false hcs) W)
          clear hstep
          by_cases q35 : c = 35
          · subst q35
            replace hst1 := hst1.trans (if_pos rfl)
            have hpos : 0 < lineLen (s.drop i) := lineLen_pos (c := 35) (by rw [List.getElem?_drop]; exact hsc) (by decide)
            replace hst1 := hst1.trans (if_pos hpos)
            have hle : lineLen (s.drop i) ≤ s.length - i := by have := lineLen_le (s.drop i); rw [List.length_drop] at this; exact this
            have hn1 := hln.out i
            obtain ⟨N, hN⟩ : ∃ N, lineLen (s.drop i) = N := ⟨_, rfl⟩
            rw [hN] at hst1 hpos hle hn1
            clear hN
            obtain ⟨v, hv⟩ : ∃ v : Int, (if N = s.length - i then -1 else (N : Int)) = v := ⟨_, rfl⟩
            rw [hv] at hn1
            have hv2 : (v = -1 ∧ N = s.length - i) ∨ v = (N : Int) := by
              rw [← hv]; split
              · rename_i hq; exact .inl ⟨rfl, hq⟩
              · exact .inr rfl
            clear hv
            replace hst1 := Lib.hid hst1
            replace hv2 := Lib.hid hv2
            replace hn1 := Lib.hid hn1
            have hwn : IntKind.i64.wrap ((i : Int) + (N : Int)) = (i : Int) + (N : Int) := IntWalk.i64_in _ (by omega)
            have hw1 : IntKind.i64.wrap ((s.length : Int) - (i : Int)) = (s.length : Int) - (i : Int) := IntWalk.i64_in _ (by omega)
            have hw2 : IntKind.i64.wrap ((i : Int) + ((s.length : Int) - (i : Int))) = (i : Int) + ((s.length : Int) - (i : Int)) := IntWalk.i64_in _ (by omega)
            go_wp2_with fail
            refine (hin.out _).mono ?_
            rintro e w' ⟨rfl, rfl⟩
            go_wp2_with fail
            refine (hn1.out _).mono ?_
            rintro e w' ⟨rfl, rfl⟩
            clear hn1 hin
            rcases hv2.out with ⟨rfl, hNe⟩ | rfl
            · go_wp2_with fail
              go_roundg (s.length - (i + N))
              case measure => omega
              case rel =>
                have hcs : Chg [g] wr (wr.setCell ⟨g, 1, none⟩ (.int .i64 ((i : Int) + ((s.length : Int) - (i : Int))))) := (Chg.refl [g] _).setCell (.inl (by simp)) _
                refine ⟨A, n, cc, xs, rfl, own_chg hO.out hcs (fun k hk hm => own_not hO.out hP.out (by decide) (by simp at hm; rw [hm] at hk; exact hk)), hC.out.then hcs (by intro x hx; simp at hx; omega),
                  .inl ⟨i + N, cs, ?_, hX.out.chg hcs (by intro k hk; simp at hk; omega), hlen.out, hst1.out, by omega, by omega, rfl⟩⟩
                have := hP.out.put ((i : Int) + ((s.length : Int) - (i : Int)))
                rw [show ((i + N : Nat) : Int) = (i : Int) + ((s.length : Int) - (i : Int)) by omega]
                exact this
            · have hn0 : ¬ (N : Int) < 0 := by omega
              go_wp2_with fail
              go_roundg (s.length - (i + N))
              case measure => omega
              case rel =>
                have hcs : Chg [g] wr (wr.setCell ⟨g, 1, none⟩ (.int .i64 ((i : Int) + (N : Int)))) := (Chg.refl [g] _).setCell (.inl (by simp)) _
                exact ⟨A, n, cc, xs, rfl, own_chg hO.out hcs (fun k hk hm => own_not hO.out hP.out (by decide) (by simp at hm; rw [hm] at hk; exact hk)), hC.out.then hcs (by intro x hx; simp at hx; omega),
                  .inl ⟨i + N, cs, hP.out.put ((i : Int) + (N : Int)), hX.out.chg hcs (by intro k hk; simp at hk; omega), hlen.out, hst1.out, by omega, by omega, rfl⟩⟩
          · have b35 := u8n (n := 35) q35
            have hst2 := Lib.hid (hst1.trans (if_neg q35))
            clear hst1
            go_wp2_with fail
            refine (hin.out _).mono ?_
            rintro e w' ⟨rfl, rfl⟩
            clear hin
            go_wp2_with fail
            refine (hcmd.out _ g i (by omega) hP.out).mono ?_
            rintro e w3 ⟨A2, n2, m2, rfl, hC3, hcase⟩
            obtain ⟨gk, hM, hgk, hO3⟩ := pa_cmd hB hsc hcs hst2.out hX.out hO.out hg.symm hlen.out hni hP.out hC3 hcase
            replace hM := Lib.hid hM
            replace hO := Lib.hid hO3
            replace hC := Lib.hid (hC.out.then hC3 (by intro x hx; simp at hx; omega))
            clear hP hX hC3 hcase hO3 c0 c1 c2 c3 f1
            go_wp2_with (at_builtin; refine wpList_append_sl rfl (.tmp 28) (.tmp 31) 65 rfl w.heap.size 69 (.agg #[.int .i64 0, .slice none 0 0]) 2 32 Try.underlying65 Try.info_command rfl (by decide) _ n xs rfl (hO.out.alloc _) _ 1 [.int .i64 i, .slice A2 n2 m2] rfl (sl_wide_new w3 _ 69 2 rfl) (by intro u hu; simp at hu; rcases hu with rfl | rfl <;> rfl) (n + 1) rfl (by omega) (by decide) (by have := hC.out.size; simp; omega) ?_)
            intro A' c' w4 hO' hCh hat
            replace hO' := Lib.hid (show w4.ownsRow w.heap.size 69 2 _ _ _ by rw [hg]; exact hO')
            replace hCh := Lib.hid (((Chg.refl _ w3).alloc _).trans hCh)
            replace hat := Lib.hid hat
            go_wp2_with fail
            go_roundg gk
            case measure => omega
            case rel =>
              refine ⟨A', n + 1, c', _, rfl, hO'.out, hC.out.then hCh.out (fun q hq => .inr (hO.out.lt q (by simpa using hq)).1), hM.out.go hCh.out (fun k hk => ?_) ?_⟩
              · simp at hk
                refine ⟨fun e => ?_, .inr (.inl hk)⟩
                subst e
                rcases hM.out with ⟨j, cs', cm, A5, c5, ys, h1, -⟩ | ⟨p, q, h1, -⟩ <;> exact own_not hO.out h1 (by decide) hk
              · rcases hat.out with e | e
                · exact .inl e
                · exact .inr (fun q hq => by have := e q hq; (try simp at this); omega)
      · have hii : i = s.length := by omega
        subst hii
        have hE := Lib.hid (hpg.trans (parse_none (List.getElem?_eq_none (Nat.le_refl _))))
        have hdec : decide ((s.length : Int) < (s.length : Int)) = false := by simp
        go_wp2_with fail
        (try rw [Exit.noGoto_ret])
        go_ret3
        exact ⟨hC.out, .inl ⟨A, n, cc, xs, cs, rfl, hE0.out.trans hE.out, hlen.out.symm, own_sl hO.out, hX.out.less (by omega), fun q hq => (hO.out.lt q hq).1, hni⟩⟩
    · have hE := Lib.hid hpg
      replace hP := Lib.hid hP
      have hdec : decide ((s.length : Int) < (s.length : Int)) = false := by simp
      have hqq : ((q : Int) == 0) = false := by rw [beq_eq_false_iff_ne]; omega
      obtain ⟨c0, c1, c2, c3⟩ := hP.out.c0
      have f1 := hP.out.f0 1

      replace hq0 := Lib.hid hq0
      go_wp2_with fail
      go_quiet (fail)
      go_wp2_with fail
      (try rw [Exit.noGoto_ret])
      go_ret3
      exact ⟨hC.out.drewN _, .inr ⟨p, q, rfl, hE0.out.trans hE.out, hq0.out⟩⟩
end Go.Proofs.Ytakcolililbkjaa
