/- Contract of package tcl's parts. Conditions: as it states. -/
import Derived.Test.YtakcolililbkjaaTclFlush
import Derived.Deep.Cut
import Derived.StillTailTactics
set_option linter.unusedVariables false
set_option linter.unusedSimpArgs false
namespace Go.Proofs.Ytakcolililbkjaa
open Go.RowKit Tcl
theorem esc_none' (s : List UInt8) (i : Nat) (hs : s.length ≤ 16777300) (hi : s[i]? = some 92) (he : esc s i = none) (w : World) :
    Calls Try.prog 61 #[.string (bstr s), .int .i64 i] w fun e w' => e = .returned (.tuple #[.int .u8 0, .int .i64 0, .int .i64 5]) ∧ w = w' := by
  refine (esc_any s i hs hi w).mono ?_
  rintro e w' ⟨h0, ⟨h1, h2⟩ | ⟨x, j, h1, h2⟩⟩
  · exact ⟨h2, h0⟩
  · rw [he] at h1; cases h1
theorem esc_some' (s : List UInt8) (i : Nat) (hs : s.length ≤ 16777300) (hi : s[i]? = some 92) (x : UInt8) (j : Nat) (he : esc s i = some (x, j)) (w : World) :
    Calls Try.prog 61 #[.string (bstr s), .int .i64 i] w fun e w' => e = .returned (.tuple #[.int .u8 x.toNat, .int .i64 j, .int .i64 0]) ∧ w = w' := by
  refine (esc_any s i hs hi w).mono ?_
  rintro e w' ⟨h0, ⟨h1, h2⟩ | ⟨x', j', h1, h2⟩⟩
  · rw [he] at h1; cases h1
  · rw [he] at h1; cases h1; exact ⟨h2, h0⟩
theorem name_n (s : List UInt8) (i : Nat) (hs : s.length ≤ 16777300) (hi : i < s.length) (w : World) :
    Calls Try.prog 62 #[.string ((bstr s).extract (i + 1) (bstr s).size), .func (.func 63) #[] #[]] w fun e w' => e = .returned (.int .i64 (if nameLen (s.drop (i + 1)) = s.length - (i + 1) then -1 else (nameLen (s.drop (i + 1)) : Int))) ∧ Chg [] w w' := by
  have e1 : (bstr s).extract (i + 1) (bstr s).size = bstr (s.drop (i + 1)) := by rw [extract_bstr, sub, bstr_size, List.take_length]
  rw [e1]
  have h := IndexFunc_any (bstr (s.drop (i + 1))) (by rw [bstr_size, List.length_drop]; omega) w
  rw [bstr_list, bstr_size, List.length_drop] at h
  exact h
/-- One byte more of the text. -/
theorem text_step {S : List Nat} {w0 W w1 : World} {bl bt : Nat} {l : List Part} {text : List UInt8} {A A2 A' : Option Addr} {c c2 c' : Nat} {x : UInt8} {ob : Obj}
    (h1 : W.heap[bl]? = some (.cells #[.slice A l.length c] 36 (0, 0))) (h2 : W.heap[bt]? = some (.cells #[.slice A2 text.length c2] 22 (0, 0)))
    (h3 : W.ownsRow w0.heap.size 42 2 (.slice A l.length c) l.length (partsCells l)) (h4 : W.ownsRow w0.heap.size 5 1 (.slice A2 text.length c2) text.length (cellsOf .u8 (nums text))) (h5 : w0.heap.size ≤ bl) (h6 : w0.heap.size ≤ bt)
    (hC : Chg S w0 W) (hO' : w1.ownsRow w0.heap.size 5 1 (.slice A' (text.length + 1) c') (text.length + 1) (cellsOf .u8 (nums text) ++ cellsOf .u8 (nums [x]))) (hCh : Chg (Value.slice A2 text.length c2).ownBlock.toList (W.alloc ob) w1) :
    w1.cell? ⟨bt, 0, none⟩ = some (.slice A2 text.length c2) ∧ w1.frozen? ⟨bt, 0, none⟩ = false ∧
    PSt (w1.setCell ⟨bt, 0, none⟩ (.slice A' (text.length + 1) c')) w0.heap.size bl bt l (text ++ [x]) ∧ Chg S w0 (w1.setCell ⟨bt, 0, none⟩ (.slice A' (text.length + 1) c')) ∧
    ∀ (k : Nat) (cs : Array Value) (f : Nat × Nat), W.heap[k]? = some (Obj.cells cs 104 f) → (w1.setCell ⟨bt, 0, none⟩ (.slice A' (text.length + 1) c')).heap[k]? = some (Obj.cells cs 104 f) := by
  have nb : bl ≠ bt := fun e => by rw [e, h2] at h1; simp at h1
  have k1 := own_not h4 h1 (by decide)
  have k2 := own_not h4 h2 (by decide)
  have m1 : bl ∉ (Value.slice A2 text.length c2).ownBlock.toList := fun hm => k1 (by simpa using hm)
  have m2 : bt ∉ (Value.slice A2 text.length c2).ownBlock.toList := fun hm => k2 (by simpa using hm)
  have G1 := hCh.heap (blk_alloc h1 ob) m1
  have G2 := hCh.heap (blk_alloc h2 ob) m2
  have hrow : ∀ q, (Value.slice A l.length c).ownBlock = some q → q ∉ (Value.slice A2 text.length c2).ownBlock.toList := fun q hq hm => by
    rcases h4.2 with ⟨e, _⟩ | ⟨q', _, cur, e, _, hg, _⟩
    · rw [e] at hm; simp [Value.ownBlock] at hm
    · rw [e] at hm; simp [Value.ownBlock] at hm; subst hm; exact own_not h3 hg (by decide) hq
  have h3' := own_chg (h3.alloc ob) hCh hrow
  have n1 := own_not h3' G2 (by decide)
  have n2 := own_not hO' G2 (by decide)
  refine ⟨by simp [World.cell?, G2], by simp [World.frozen?, G2], ⟨A, c, A', c', ?_, ?_, own_set h3' _ _ _ n1, ?_, h5, h6⟩, ?_, ?_⟩
  · exact blk_set_ne G1 nb 0 _
  · rw [List.length_append]; exact blk_set G2 0 _
  · rw [List.length_append, nums_append, cellsOf_append]; exact own_set hO' _ _ _ n2
  · exact ((hC.alloc ob).then hCh (fun q hq => .inr (h4.lt q (by simpa using hq)).1)).setCell (.inr h6) _
  · intro k cs f hk
    have n3 : k ≠ bt := fun e => by rw [e, h2] at hk; simp at hk
    have n4 := own_not h4 hk (by decide)
    exact blk_set_ne (hCh.heap (blk_alloc hk ob) (fun hm => n4 (by simpa using hm))) n3 0 _
/-- One part more. -/
theorem parts_step {S : List Nat} {w0 W w1 : World} {bl bt : Nat} {l : List Part} {text : List UInt8} {A A2 A' : Option Addr} {c c2 c' : Nat} {p : Part}
    (h1 : W.heap[bl]? = some (.cells #[.slice A l.length c] 36 (0, 0))) (h2 : W.heap[bt]? = some (.cells #[.slice A2 text.length c2] 22 (0, 0)))
    (h3 : W.ownsRow w0.heap.size 42 2 (.slice A l.length c) l.length (partsCells l)) (h4 : W.ownsRow w0.heap.size 5 1 (.slice A2 text.length c2) text.length (cellsOf .u8 (nums text))) (h5 : w0.heap.size ≤ bl) (h6 : w0.heap.size ≤ bt)
    (hC : Chg S w0 W) (hO' : w1.ownsRow w0.heap.size 42 2 (.slice A' (l.length + 1) c') (l.length + 1) (partsCells l ++ partCells p)) (hCh : Chg (Value.slice A l.length c).ownBlock.toList W w1) :
    w1.cell? ⟨bl, 0, none⟩ = some (.slice A l.length c) ∧ w1.frozen? ⟨bl, 0, none⟩ = false ∧
    PSt (w1.setCell ⟨bl, 0, none⟩ (.slice A' (l.length + 1) c')) w0.heap.size bl bt (l ++ [p]) text ∧ Chg S w0 (w1.setCell ⟨bl, 0, none⟩ (.slice A' (l.length + 1) c')) ∧
    ∀ (k : Nat) (cs : Array Value) (f : Nat × Nat), W.heap[k]? = some (Obj.cells cs 104 f) → (w1.setCell ⟨bl, 0, none⟩ (.slice A' (l.length + 1) c')).heap[k]? = some (Obj.cells cs 104 f) := by
  have nb : bl ≠ bt := fun e => by rw [e, h2] at h1; simp at h1
  have k1 := own_not h3 h1 (by decide)
  have k2 := own_not h3 h2 (by decide)
  have m1 : bl ∉ (Value.slice A l.length c).ownBlock.toList := fun hm => k1 (by simpa using hm)
  have m2 : bt ∉ (Value.slice A l.length c).ownBlock.toList := fun hm => k2 (by simpa using hm)
  have G1 := hCh.heap h1 m1
  have G2 := hCh.heap h2 m2
  have hrow : ∀ q, (Value.slice A2 text.length c2).ownBlock = some q → q ∉ (Value.slice A l.length c).ownBlock.toList := fun q hq hm => by
    rcases h3.2 with ⟨e, _⟩ | ⟨q', _, cur, e, _, hg, _⟩
    · rw [e] at hm; simp [Value.ownBlock] at hm
    · rw [e] at hm; simp [Value.ownBlock] at hm; subst hm; exact own_not h4 hg (by decide) hq
  have h4' := own_chg h4 hCh hrow
  have n1 := own_not h4' G1 (by decide)
  have n2 := own_not hO' G1 (by decide)
  refine ⟨by simp [World.cell?, G1], by simp [World.frozen?, G1], ⟨A', c', A2, c2, ?_, ?_, ?_, own_set h4' _ _ _ n1, h5, h6⟩, ?_, ?_⟩
  · rw [List.length_append]; exact blk_set G1 0 _
  · exact blk_set_ne G2 (fun e => nb e.symm) 0 _
  · rw [List.length_append, partsCells_snoc]; exact own_set hO' _ _ _ n2
  · exact (hC.then hCh (fun q hq => .inr (h3.lt q (by simpa using hq)).1)).setCell (.inr h5) _
  · intro k cs f hk
    have n3 : k ≠ bl := fun e => by rw [e, h1] at hk; simp at hk
    have n4 := own_not h3 hk (by decide)
    exact blk_set_ne (hCh.heap hk (fun hm => n4 (by simpa using hm))) n3 0 _
/-- What `parts` tells. -/
def PaEnd (w : World) (g : Nat) (s : List UInt8) (stop : UInt8 → Bool) (fr : Option Nat) (i0 : Nat) (a0 : Int) (e : Ending) (w' : World) : Prop :=
  ∃ A n c, e = .returned (.slice A n c) ∧ Chg [g] w w' ∧
    ((∃ r j, partsGo stop s fr i0 [] [] = .ok (r, j) ∧ PS w' g (bstr s) j a0 0 ∧ n = r.length ∧ PartsAt w' (.slice A n c) r ∧ ∀ q, (Value.slice A n c).ownBlock = some q → w.heap.size ≤ q)
    ∨ (∃ p q : Nat, partsGo stop s fr i0 [] [] = .error (p, q) ∧ PS w' g (bstr s) s.length p q ∧ q ≠ 0))
set_option maxRecDepth 100000 in
set_option maxHeartbeats 16000000 in
theorem parts_any (w : World) (g : Nat) (s : List UInt8) (stopS : ByteArray) (stop : UInt8 → Bool) (hstop : ∀ c, stopS.data.toList.any (· == c) = stop c) (fr : Option Nat) (frI : Int) (hfr : (fr = none ∧ frI = -1) ∨ ∃ f : Nat, fr = some f ∧ frI = f ∧ f ≤ s.length)
    (i0 : Nat) (a0 : Int) (hs : s.length ≤ 16777300) (hi0 : i0 ≤ s.length) (h : PS w g (bstr s) i0 a0 0) :
    Calls Try.prog 55 #[.pointer (some ⟨g, 0, none⟩), .string stopS, .int .i64 frI] w (PaEnd w g s stop fr i0 a0) := by
  have hsz : (bstr s).size = s.length := rfl
  obtain ⟨B, hB⟩ : ∃ B, bstr s = B := ⟨_, rfl⟩
  have hby : ∀ i (h : i < B.size), s[i]? = some (B[i]'h) := by rw [← hB]; exact fun i h => byte_of h
  have hin := Lib.hid (fun c b hb w => in_any stopS c b ((hstop c).trans hb) w)
  have hen := Lib.hid (fun i hi he w => esc_none' s i hs hi he w)
  have hes := Lib.hid (fun i hi x j he w => esc_some' s i hs hi x j he w)
  have hnm := Lib.hid (fun i hi w => name_n s i hs hi w)
  unfold PaEnd
  rw [hB] at h hsz hen hes hnm ⊢
  have hex : ∀ a b, B.extract a b = bstr (sub s a b) := by rw [← hB]; exact extract_bstr s
  replace hby := Lib.hid hby
  replace hex := Lib.hid hex
  have hgl := lt_heap h
  have hfrI : -1 ≤ frI ∧ frI ≤ 16777300 := by rcases hfr with ⟨_, rfl⟩ | ⟨f, _, rfl, hf⟩ <;> omega
  replace hfr := Lib.hid hfr
  clear hB hstop
  have hst : PSt ((w.alloc (.cells #[.slice none 0 0] 36)).alloc (.cells #[.slice none 0 0] 22)) w.heap.size w.heap.size (w.heap.size + 1) [] [] := by
    refine ⟨none, 0, none, 0, blk_alloc (blk_new _ _) _, ?_, World.ownsRow_nil _ _ _ _, World.ownsRow_nil _ _ _ _, by omega, by omega⟩
    have := blk_new (w.alloc (.cells #[.slice none 0 0] 36)) (.cells #[.slice none 0 0] 22)
    rw [show (w.alloc (.cells #[.slice none 0 0] 36)).heap.size = w.heap.size + 1 from Array.size_push ..] at this
    exact this
  replace hst := Lib.hid hst
  obtain ⟨bt, hbt⟩ : ∃ bt, w.heap.size + 1 = bt := ⟨_, rfl⟩
  go_enter Try.func55, Try.ntmps55
  go_wp2_with fail
  go_step3
  go_wp2_with fail
  go_step3
  go_wp2_with fail
  go_loopg [2] (s.length - i0) (fun gk v2 wr => ∃ (i : Nat) (l : List Part) (text : List UInt8), v2 = .int .i64 frI ∧ PS wr g B i a0 0 ∧ PSt wr w.heap.size w.heap.size bt l text ∧ Chg [g] w wr ∧ Hid (partsGo stop s fr i0 [] [] = partsGo stop s fr i l text) ∧ i ≤ s.length ∧ l.length + text.length ≤ i ∧ gk = s.length - i)
  case atStart => exact ⟨i0, [], [], rfl, PS.chg h (((Chg.refl [] w).alloc _).alloc _) (by simp), by rw [← hbt]; exact hst.out, ((Chg.refl [g] w).alloc _).alloc _, rfl, hi0, by simp, rfl⟩
  case round =>
    obtain ⟨i, l, text, rfl, hP, hT, hC, hgo, hil, hlt2, rfl⟩ := hrel
    clear h hst
    obtain ⟨c0, c1, -, -⟩ := hP.c0
    have f1 := hP.f0 1
    replace hP := Lib.hid hP
    replace hC := Lib.hid hC
    replace hT := Lib.hid hT
    by_cases hlt : i < s.length
    · have hlB : i < B.size := by omega
      obtain ⟨c, hc⟩ : ∃ c, B[i]'hlB = c := ⟨_, rfl⟩
      have hsc : s[i]? = some c := by rw [hby.out i hlB, hc]
      have hstep := Lib.hid (hgo.out.trans (parts_some hsc))
      go_wp2_with fail
      go_quiet (fail)
      replace hP : Hid (PS (wr.drewN nq) g B i a0 0) := hP.out
      replace hT : Hid (PSt (wr.drewN nq) w.heap.size w.heap.size bt l text) := hT.out
      replace hC : Hid (Chg [g] w (wr.drewN nq)) := hC.out.drewN nq
      clear c0 c1
      generalize World.drewN _ _ = w1 at hP hT hC ⊢
      obtain ⟨c0, c1, -, -⟩ := hP.out.c0
      have f1 := hP.out.f0 1
      go_wp2_with fail
      go_quiet (fail)
      replace hP : Hid (PS (w1.drewN nq) g B i a0 0) := hP.out
      replace hT : Hid (PSt (w1.drewN nq) w.heap.size w.heap.size bt l text) := hT.out
      replace hC : Hid (Chg [g] w (w1.drewN nq)) := hC.out.drewN nq
      clear c0 c1
      generalize World.drewN _ _ = w2 at hP hT hC ⊢
      obtain ⟨c0, c1, -, -⟩ := hP.out.c0
      have f1 := hP.out.f0 1

      cases hcs : stop c with
      | true =>
        have hE := Lib.hid (hstep.out.trans (if_pos hcs))
        have hi1 := Lib.hid (fun w => hin.out c true hcs w)
        clear hstep
        go_wp2_with fail
        refine (hi1.out _).mono ?_
        rintro e w' ⟨rfl, rfl⟩
        clear hi1
        go_wp2_with fail
        refine (flush_any w _ [g] w.heap.size bt l text hT.out hC.out (by omega) (by omega)).mono ?_
        rintro e w9 ⟨rfl, hT9, hC9, hk9⟩
        have hP9 := hk9 _ _ _ hP.out
        obtain ⟨A, c9, A2, c2, p1, p2, p3, p4, p5, p6⟩ := hT9
        have q1 : w9.cell? ⟨w.heap.size, 0, none⟩ = some (.slice A (flush l text).length c9) := by simp [World.cell?, p1]
        have hS9 := Lib.hid (own_sl p3)
        have hB9 := Lib.hid (fun q hq => (p3.lt q hq).1)
        replace hP9 := Lib.hid hP9
        replace hC9 := Lib.hid hC9
        clear hT hC hP hk9 p1 p2 p3 p4 p5 p6
        go_wp2_with fail
        (try rw [Exit.noGoto_ret])
        go_ret
        exact ⟨A, _, c9, rfl, hC9.out, .inl ⟨_, _, hE.out, hP9.out, rfl, hS9.out, hB9.out⟩⟩

      | false =>
        have h1 := hstep.out.trans (if_neg (by rw [hcs]; decide))
        have hi1 := Lib.hid (fun w => hin.out c false hcs w)
        clear hstep
        go_wp2_with fail
        refine (hi1.out _).mono ?_
        rintro e w' ⟨rfl, rfl⟩
        clear hi1
        by_cases q91 : c = 91
        · subst q91
          have hE := Lib.hid (h1.trans (if_pos rfl))
          clear h1
          go_wp2_with fail
          refine (fail_first _ g B i a0 i 4 hP.out).mono ?_
          rintro e w7 ⟨rfl, hP7, hC7⟩
          replace hT := Lib.hid (hT.out.chg hC7 (by intro k hk; simp at hk; subst hk; exact ⟨_, _, hP.out⟩))
          replace hC := Lib.hid (hC.out.trans hC7)
          replace hP : Hid (PS w7 g B s.length (i : Nat) (4 : Nat)) := by rw [hsz] at hP7; exact hP7
          clear hP7 hC7 c0 c1 f1
          go_wp2_with fail
          refine (flush_any w _ [g] w.heap.size bt l text hT.out hC.out (by omega) (by omega)).mono ?_
          rintro e w9 ⟨rfl, hT9, hC9, hk9⟩
          have hP9 := hk9 _ _ _ hP.out
          obtain ⟨A, c9, A2, c2, p1, p2, p3, p4, p5, p6⟩ := hT9
          have q1 : w9.cell? ⟨w.heap.size, 0, none⟩ = some (.slice A (flush l text).length c9) := by simp [World.cell?, p1]
          have hS9 := Lib.hid (own_sl p3)
          have hB9 := Lib.hid (fun q hq => (p3.lt q hq).1)
          replace hP9 := Lib.hid hP9
          replace hC9 := Lib.hid hC9
          clear hT hC hP hk9 p1 p2 p3 p4 p5 p6
          go_wp2_with fail
          (try rw [Exit.noGoto_ret])
          go_ret
          exact ⟨A, _, c9, rfl, hC9.out, .inr ⟨_, _, hE.out, hP9.out, by decide⟩⟩

        have b91 := u8n (n := 91) q91
        replace h1 := h1.trans (if_neg q91)
        clear q91
        by_cases q92 : c = 92
        · subst q92
          replace h1 := h1.trans (if_pos rfl)
          cases he : esc s i with
          | none =>
            rw [he] at h1
            have hE : Hid (partsGo stop s fr i0 [] [] = .error (fr.getD i, 5)) := h1
            have hq := Lib.hid (fun w => hen.out i hsc he w)
            clear h1
            go_wp2_with fail
            go_quiet ((go_at_call 61; exact (hq.out _).mono (fun e w' h => ⟨h.1, _, h.2.symm⟩)))
            replace hP : Hid (PS (w2.drewN nq) g B i a0 0) := hP.out
            replace hT : Hid (PSt (w2.drewN nq) w.heap.size w.heap.size bt l text) := hT.out
            replace hC : Hid (Chg [g] w (w2.drewN nq)) := hC.out.drewN nq
            clear c0 c1
            generalize World.drewN _ _ = w3 at hP hT hC ⊢
            obtain ⟨c0, c1, -, -⟩ := hP.out.c0
            have f1 := hP.out.f0 1

            obtain ⟨P, hPe, hPl⟩ : ∃ P : Nat, fr.getD i = P ∧ ((frI < 0 ∧ (P : Int) = i) ∨ (0 ≤ frI ∧ (P : Int) = frI)) := by
              rcases hfr.out with ⟨rfl, rfl⟩ | ⟨f, rfl, rfl, _⟩
              · exact ⟨i, rfl, .inl ⟨by omega, rfl⟩⟩
              · exact ⟨f, rfl, .inr ⟨by omega, rfl⟩⟩
            rw [hPe] at hE
            rcases hPl with ⟨hneg, hPi⟩ | ⟨hneg, hPi⟩
            all_goals
              replace hPi := Lib.hid hPi
              go_wp2_with fail
              (first | rw [← hPi.out] | skip)
              refine (fail_first _ g B i a0 P 5 hP.out).mono ?_
              rintro e w7 ⟨rfl, hP7, hC7⟩
              replace hT := Lib.hid (hT.out.chg hC7 (by intro k hk; simp at hk; subst hk; exact ⟨_, _, hP.out⟩))
              replace hC := Lib.hid (hC.out.trans hC7)
              replace hP : Hid (PS w7 g B s.length (P : Nat) (5 : Nat)) := by rw [hsz] at hP7; exact hP7
              clear hP7 hC7 c0 c1 f1
              go_wp2_with fail
              refine (flush_any w _ [g] w.heap.size bt l text hT.out hC.out (by omega) (by omega)).mono ?_
              rintro e w9 ⟨rfl, hT9, hC9, hk9⟩
              have hP9 := hk9 _ _ _ hP.out
              obtain ⟨A, c9, A2, c2, p1, p2, p3, p4, p5, p6⟩ := hT9
              have q1 : w9.cell? ⟨w.heap.size, 0, none⟩ = some (.slice A (flush l text).length c9) := by simp [World.cell?, p1]
              have hS9 := Lib.hid (own_sl p3)
              have hB9 := Lib.hid (fun q hq => (p3.lt q hq).1)
              replace hP9 := Lib.hid hP9
              replace hC9 := Lib.hid hC9
              clear hT hC hP hk9 p1 p2 p3 p4 p5 p6
              go_wp2_with fail
              (try rw [Exit.noGoto_ret])
              go_ret
              exact ⟨A, _, c9, rfl, hC9.out, .inr ⟨_, _, hE.out, hP9.out, by decide⟩⟩

          | some xj =>
            obtain ⟨x, j⟩ := xj
            have hj := esc_bound he
            rw [he] at h1
            have h2 : Hid (partsGo stop s fr i0 [] [] = partsGo stop s fr j l (text ++ [x])) := h1.trans (if_pos (by omega))
            have hq := Lib.hid (fun w => hes.out i hsc x j he w)
            clear h1
            go_wp2_with fail
            go_quiet ((go_at_call 61; exact (hq.out _).mono (fun e w' h => ⟨h.1, _, h.2.symm⟩)))
            replace hP : Hid (PS (w2.drewN nq) g B i a0 0) := hP.out
            replace hT : Hid (PSt (w2.drewN nq) w.heap.size w.heap.size bt l text) := hT.out
            replace hC : Hid (Chg [g] w (w2.drewN nq)) := hC.out.drewN nq
            clear c0 c1
            generalize World.drewN _ _ = w3 at hP hT hC ⊢
            obtain ⟨c0, c1, -, -⟩ := hP.out.c0
            have f1 := hP.out.f0 1
            obtain ⟨A, cA, A2, c2, p1, p2, p3, p4, p5, p6⟩ := hT.out
            have q1 : w3.cell? ⟨bt, 0, none⟩ = some (Value.slice A2 text.length c2) := by simp [World.cell?, p2]
            have hbase := hC.out.size
            have hO := Lib.hid (p4.alloc (.cells #[.int .u8 x.toNat] 5))
            replace p1 := Lib.hid p1
            replace p2 := Lib.hid p2
            replace p3 := Lib.hid p3
            replace p4 := Lib.hid p4
            go_wp2_with (at_builtin; refine wpList_append_sl rfl (.tmp 87) (.tmp 89) 22 rfl w.heap.size 5 (.int .u8 0) 1 1 Try.underlying22 Try.info_u8 rfl (by decide) _ text.length (cellsOf .u8 (nums text)) rfl hO.out _ 1 (cellsOf .u8 (nums [x])) rfl (sl_new _ [.int .u8 x.toNat] 5 1 rfl (by decide)) cellsOf_one (text.length + 1) rfl (by omega) (by decide) (by simp; omega) ?_)
            intro A' c' w5 hO' hCh hat
            obtain ⟨q3, q4, hT5, hC5, hk5⟩ := text_step p1.out p2.out p3.out p4.out p5 p6 hC.out hO' hCh
            have hP5 := hk5 _ _ _ hP.out
            replace hT := Lib.hid hT5
            replace hC := Lib.hid hC5
            replace hP : Hid (PS (w5.setCell ⟨bt, 0, none⟩ (.slice A' (text.length + 1) c')) g B i a0 0) := hP5
            clear hT5 hC5 hP5 hk5 hO' hCh hat hO p1 p2 p3 p4 p5 p6 q1 c0 c1 f1 hbase
            obtain ⟨c0, c1, -, -⟩ := hP.out.c0
            have f1 := hP.out.f0 1
            go_wp2_with fail
            go_roundg (s.length - (j))
            case measure => omega
            case rel =>
              refine ⟨j, l, text ++ [x], rfl, ?_, hT.out.chg ((Chg.refl [g] _).setCell (p := ⟨g, 1, none⟩) (.inl (by simp)) _) (by intro k hk; simp at hk; subst hk; exact ⟨_, _, hP.out⟩), hC.out.setCell (.inl (by simp)) _, h2, by omega, by simp [flush]; omega, rfl⟩
              have hput := hP.out.put ((j : Nat) : Int)
              first
              | exact hput
              | (have e9 : (((j) : Nat) : Int) = (i : Int) + 1 := by omega
                 rw [e9] at hput ⊢
                 exact hput)

        have b92 := u8n (n := 92) q92
        replace h1 := h1.trans (if_neg q92)
        clear q92
        by_cases q36 : c = 36
        · subst q36
          replace h1 := h1.trans (if_pos rfl)
          have ew : IntKind.i64.wrap ((i : Int) + 1) = (i : Int) + 1 := IntWalk.i64_in _ (by omega)
          go_wp2_with fail
          go_quiet (fail)
          replace hP : Hid (PS (w2.drewN nq) g B i a0 0) := hP.out
          replace hT : Hid (PSt (w2.drewN nq) w.heap.size w.heap.size bt l text) := hT.out
          replace hC : Hid (Chg [g] w (w2.drewN nq)) := hC.out.drewN nq
          clear c0 c1
          generalize World.drewN _ _ = w3 at hP hT hC ⊢
          obtain ⟨c0, c1, -, -⟩ := hP.out.c0
          have f1 := hP.out.f0 1
          obtain ⟨N, hN⟩ : ∃ N, nameLen (s.drop (i + 1)) = N := ⟨_, rfl⟩
          have hNl : N ≤ s.length - (i + 1) := by have := nameLen_le (s.drop (i + 1)); rw [List.length_drop] at this; omega
          have hn1 := hnm.out i hlt
          rw [hN] at hn1 h1
          have hRs : (B.extract (i + 1) B.size).size = s.length - (i + 1) := by rw [ByteArray.size_extract]; omega
          have hRx : ∀ n, (B.extract (i + 1) B.size).extract 0 n = bstr ((s.drop (i + 1)).take n) := fun n => by
            rw [hex.out, extract_bstr, sub, sub, hsz, List.take_length, List.drop_zero]
          obtain ⟨v, hv⟩ : ∃ v : Int, (if N = s.length - (i + 1) then -1 else (N : Int)) = v := ⟨_, rfl⟩
          rw [hv] at hn1
          have hv2 : (v = -1 ∧ (B.extract (i + 1) B.size).size = N) ∨ v = (N : Int) := by
            rw [← hv]; split
            · rename_i hq; exact .inl ⟨rfl, by rw [hRs, hq]⟩
            · exact .inr rfl
          rw [hsz] at hn1 hRs hv2
          simp only [hsz] at hRx
          replace hn1 := Lib.hid hn1
          replace hRs := Lib.hid hRs
          replace hRx := Lib.hid hRx
          replace hv2 := Lib.hid hv2
          replace h1 := Lib.hid h1
          replace hN := Lib.hid hN
          clear hv
          go_wp2_with fail
          obtain ⟨R, hR⟩ : ∃ R, B.extract (i + 1) s.length = R := ⟨_, rfl⟩
          rw [hR] at hn1 hRs hRx hv2 ⊢
          clear hR
          refine (hn1.out _).mono ?_
          rintro e w4 ⟨rfl, hC4⟩
          replace hP : Hid (PS w4 g B i a0 0) := PS.chg hP.out hC4 (by simp)
          replace hT : Hid (PSt w4 w.heap.size w.heap.size bt l text) := hT.out.chg hC4 (by simp)
          replace hC : Hid (Chg [g] w w4) := hC.out.trans (hC4.mono (by simp))
          clear hC4 hn1 c0 c1 f1
          obtain ⟨c0, c1, -, -⟩ := hP.out.c0
          have f1 := hP.out.f0 1
          have hsl : Hid (∀ w : World, (Instr.slice 9 (.string R) none (some (.int .i64 (N : Int))) none).run Try.prog w = .ok (.string (R.extract 0 N)) w) := fun w => by
            have h := run_slice_string_h (P := Try.prog) w 9 R Try.underlying9 .i64 (N : Int) (by omega) (by have := hRs.out; omega)
            rw [h, show ((N : Int)).toNat = N by omega]
          rcases hv2.out with ⟨rfl, hRN⟩ | rfl
          all_goals
            clear hv2
            by_cases h64 : 64 < N
            · have hE := Lib.hid (h1.out.trans (if_pos h64))
              clear h1 hRs
              go_wp2_with fail
              refine (fail_first _ g B i a0 i 6 hP.out).mono ?_
              rintro e w7 ⟨rfl, hP7, hC7⟩
              replace hT := Lib.hid (hT.out.chg hC7 (by intro k hk; simp at hk; subst hk; exact ⟨_, _, hP.out⟩))
              replace hC := Lib.hid (hC.out.trans hC7)
              replace hP : Hid (PS w7 g B s.length (i : Nat) (6 : Nat)) := by rw [hsz] at hP7; exact hP7
              clear hP7 hC7 c0 c1 f1
              go_wp2_with fail
              refine (flush_any w _ [g] w.heap.size bt l text hT.out hC.out (by omega) (by omega)).mono ?_
              rintro e w9 ⟨rfl, hT9, hC9, hk9⟩
              have hP9 := hk9 _ _ _ hP.out
              obtain ⟨A, c9, A2, c2, p1, p2, p3, p4, p5, p6⟩ := hT9
              have q1 : w9.cell? ⟨w.heap.size, 0, none⟩ = some (.slice A (flush l text).length c9) := by simp [World.cell?, p1]
              have hS9 := Lib.hid (own_sl p3)
              have hB9 := Lib.hid (fun q hq => (p3.lt q hq).1)
              replace hP9 := Lib.hid hP9
              replace hC9 := Lib.hid hC9
              clear hT hC hP hk9 p1 p2 p3 p4 p5 p6
              go_wp2_with fail
              (try rw [Exit.noGoto_ret])
              go_ret
              exact ⟨A, _, c9, rfl, hC9.out, .inr ⟨_, _, hE.out, hP9.out, by decide⟩⟩
            have h1 := h1.out.trans (if_neg h64)
            by_cases hN0 : N = 0
            · subst hN0
              have h2 : Hid (partsGo stop s fr i0 [] [] = partsGo stop s fr (i + 1) l (text ++ [36])) := h1.trans (if_pos rfl)
              clear h1
              obtain ⟨A, cA, A2, c2, p1, p2, p3, p4, p5, p6⟩ := hT.out
              have q1 : w4.cell? ⟨bt, 0, none⟩ = some (Value.slice A2 text.length c2) := by simp [World.cell?, p2]
              have hbase := hC.out.size
              have hO := Lib.hid (p4.alloc (.cells #[.int .u8 36] 5))
              replace p1 := Lib.hid p1
              replace p2 := Lib.hid p2
              replace p3 := Lib.hid p3
              replace p4 := Lib.hid p4
              go_wp2_with (at_builtin; refine wpList_append_sl rfl (.tmp 135) (.tmp 137) 22 rfl w.heap.size 5 (.int .u8 0) 1 1 Try.underlying22 Try.info_u8 rfl (by decide) _ text.length (cellsOf .u8 (nums text)) rfl hO.out _ 1 (cellsOf .u8 (nums [36])) rfl (sl_new _ [.int .u8 36] 5 1 rfl (by decide)) cellsOf_one (text.length + 1) rfl (by omega) (by decide) (by simp; omega) ?_)
              intro A' c' w5 hO' hCh hat
              obtain ⟨q3, q4, hT5, hC5, hk5⟩ := text_step p1.out p2.out p3.out p4.out p5 p6 hC.out hO' hCh
              have hP5 := hk5 _ _ _ hP.out
              replace hT := Lib.hid hT5
              replace hC := Lib.hid hC5
              replace hP : Hid (PS (w5.setCell ⟨bt, 0, none⟩ (.slice A' (text.length + 1) c')) g B i a0 0) := hP5
              clear hT5 hC5 hP5 hk5 hO' hCh hat hO p1 p2 p3 p4 p5 p6 q1 c0 c1 f1 hbase
              obtain ⟨c0, c1, -, -⟩ := hP.out.c0
              have f1 := hP.out.f0 1
              go_wp2_with fail
              go_roundg (s.length - (i + 1))
              case measure => omega
              case rel =>
                refine ⟨i + 1, l, text ++ [36], rfl, ?_, hT.out.chg ((Chg.refl [g] _).setCell (p := ⟨g, 1, none⟩) (.inl (by simp)) _) (by intro k hk; simp at hk; subst hk; exact ⟨_, _, hP.out⟩), hC.out.setCell (.inl (by simp)) _, h2, by omega, by simp [flush]; omega, rfl⟩
                have hput := hP.out.put ((i + 1 : Nat) : Int)
                first
                | exact hput
                | (have e9 : (((i + 1) : Nat) : Int) = (i : Int) + 1 := by omega
                   rw [e9] at hput ⊢
                   exact hput)
            · have h2 : Hid (partsGo stop s fr i0 [] [] = partsGo stop s fr (i + 1 + N) (flush l text ++ [⟨true, (s.drop (i + 1)).take N⟩]) []) := by rw [← hN.out]; rw [← hN.out] at h1 hN0; exact h1.trans (if_neg hN0)
              clear h1
              go_wp2_with fail
              refine (flush_any w w4 [g] w.heap.size bt l text hT.out hC.out (by omega) (by omega)).mono ?_
              rintro e w5 ⟨rfl, hT5, hC5, hk5⟩
              have hP5 := hk5 _ _ _ hP.out
              replace hT := Lib.hid hT5
              replace hC := Lib.hid hC5
              replace hP : Hid (PS w5 g B i a0 0) := hP5
              clear hT5 hC5 hP5 hk5 c0 c1 f1
              have hfl : (flush l text).length ≤ l.length + 1 := by unfold flush; split <;> simp
              have hfl2 : (flush l text).length + 1 ≤ i + 1 + N := by
                unfold flush; split
                · omega
                · rename_i ht; have := List.length_pos_iff.2 ht; simp; omega
              obtain ⟨l2, hl2⟩ : ∃ l2, flush l text = l2 := ⟨_, rfl⟩
              rw [hl2] at hT h2 hfl hfl2
              clear hl2
              obtain ⟨A, cA, A2, c2, p1, p2, p3, p4, p5, p6⟩ := hT.out
              have q1 : w5.cell? ⟨w.heap.size, 0, none⟩ = some (Value.slice A l2.length cA) := by simp [World.cell?, p1]
              have hsl' := hsl.out
              replace hP : Hid (PS w5.drew g B i a0 0) := hP.out
              replace hC : Hid (Chg [g] w w5.drew) := hC.out.drew
              have p1 : w5.drew.heap[w.heap.size]? = _ := p1
              have p2 : w5.drew.heap[bt]? = _ := p2
              have p3 := own_drew p3
              have p4 := own_drew p4
              have q1 : w5.drew.cell? ⟨w.heap.size, 0, none⟩ = some (Value.slice A l2.length cA) := q1
              replace p1 := Lib.hid p1
              replace p2 := Lib.hid p2
              replace p3 := Lib.hid p3
              replace p4 := Lib.hid p4
              clear hT
              go_wp2_with fail
              refine wp_region_any (by kernel_rfl) ?_
              (try (change wpAny _ _ _ _ _ _ _ (World.drew _)))
              refine wpAny_take (i := 1) (v := ?_) rfl (by kernel_rfl) (by kernel_rfl) (by kernel_rfl) (fun _ _ _ h => h) (Or.inl ⟨by kernel_rfl, ?_⟩) ?_
              rotate_left
              · (intro w; go_simp; try with_reducible rfl)
              change wpAny _ _ _ _ _ _ (Act.put _ (some 117) _) _
              (try simp only [Act.put, List.setIfInBounds_toArray, List.set_cons_zero, List.set_cons_succ])
              (generalize World.drew w5 = w6 at hP hC p1 p2 p3 p4 q1 ⊢; have q1a : ∀ o : Obj, (w6.alloc o).cell? ⟨w.heap.size, 0, none⟩ = some (Value.slice A l2.length cA) := fun o => by simp [World.cell?, blk_alloc p1.out o])
              refine wpAny_take (i := 2) (v := ?_) rfl (by kernel_rfl) (by kernel_rfl) (by kernel_rfl) (fun _ _ _ h => h) (Or.inl ⟨by kernel_rfl, ?_⟩) ?_
              rotate_left
              · (intro w; go_simp; try with_reducible rfl)
              change wpAny _ _ _ _ _ _ (Act.put _ (some 118) _) _
              (try simp only [Act.put, List.setIfInBounds_toArray, List.set_cons_zero, List.set_cons_succ])
              refine wpAny_take (i := 3) (v := ?_) rfl (by kernel_rfl) (by kernel_rfl) (by kernel_rfl) (fun _ _ _ h => h) (Or.inl ⟨by kernel_rfl, ?_⟩) ?_
              rotate_left
              · (intro w; go_simp; try with_reducible rfl)
              change wpAny _ _ _ _ _ _ (Act.put _ (some 119) _) _
              (try simp only [Act.put, List.setIfInBounds_toArray, List.set_cons_zero, List.set_cons_succ])
              refine wpAny_take (i := 4) (v := ?_) rfl (by kernel_rfl) (by kernel_rfl) (by kernel_rfl) (fun _ _ _ h => h) (Or.inl ⟨by kernel_rfl, ?_⟩) ?_
              rotate_left
              · (intro w; go_simp; try with_reducible rfl)
              change wpAny _ _ _ _ _ _ (Act.put _ (some 120) _) _
              (try simp only [Act.put, List.setIfInBounds_toArray, List.set_cons_zero, List.set_cons_succ])
              refine wpAny_ready (rs := [0, 5]) (by kernel_rfl) (by simp) ?_
              refine AllReady.cons rfl (fun K hK => ?_) ?_
              · (go_simp; refine hK _ _ ?_; clear hK K)
                (try simp only [Act.put, List.setIfInBounds_toArray, List.set_cons_zero, List.set_cons_succ])
                refine wpAny_ready (rs := [5]) (by kernel_rfl) (by simp) ?_
                refine AllReady.cons rfl (fun K hK => ?_) ?_
                · (go_simp; refine hK _ _ ?_; clear hK K)
                  (try simp only [Act.put, List.setIfInBounds_toArray, List.set_cons_zero, List.set_cons_succ])
                  refine wpAny_ready (rs := [6]) (by kernel_rfl) (by simp) ?_
                  refine AllReady.cons rfl (fun K hK => ?_) ?_
                  · (refine step_append_sl rfl (.tmp 116) (.tmp 121) 36 rfl w.heap.size 42 (.agg #[.bool false, .string ByteArray.empty]) 2 24 Try.underlying36 Try.info_part rfl (by decide) _ l2.length (partsCells l2) (p3.out.alloc _) rfl _ 1 (partCells ⟨true, (s.drop (i + 1)).take N⟩) (by rw [hRx.out]; exact sl_wide_new w6 _ 42 2 rfl) rfl (by intro u hu; simp [partCells] at hu; rcases hu with rfl | rfl <;> rfl) (l2.length + 1) rfl (by omega) (by decide) (by have := hC.out.size; simp; omega) ?_; intro A' c' w7 hO' hCh hat; obtain ⟨q3, q4, hT7, hC7, hk7⟩ := parts_step (p := ⟨true, (s.drop (i + 1)).take N⟩) p1.out p2.out p3.out p4.out p5 p6 hC.out hO' (((Chg.refl _ w6).alloc _).trans hCh); have hP7 := hk7 _ _ _ hP.out; replace hT := Lib.hid hT7; replace hC := Lib.hid hC7; replace hP : Hid (PS (w7.setCell ⟨w.heap.size, 0, none⟩ (.slice A' (l2.length + 1) c')) g B i a0 0) := hP7; clear hT7 hC7 hP7 hk7 hO' hCh hat p1 p2 p3 p4 p5 p6 q1 q1a; refine hK _ _ ?_; clear hK K)
                    (try simp only [Act.put, List.setIfInBounds_toArray, List.set_cons_zero, List.set_cons_succ])
                    refine wpAny_ready (rs := [7]) (by kernel_rfl) (by simp) ?_
                    refine AllReady.cons rfl (fun K hK => ?_) ?_
                    · (go_simp; refine hK _ _ ?_; clear hK K)
                      (try simp only [Act.put, List.setIfInBounds_toArray, List.set_cons_zero, List.set_cons_succ])
                      refine wpAny_done (by kernel_rfl) ?_ _
                      (try simp only [Act.put, List.setIfInBounds_toArray, List.set_cons_zero, List.set_cons_succ])
                      obtain ⟨c0, c1, -, -⟩ := hP.out.c0
                      have f1 := hP.out.f0 1
                      go_wp2_with fail
                      go_roundg (s.length - (i + 1 + N))
                      case measure => omega
                      case rel =>
                        refine ⟨i + 1 + N, l2 ++ [⟨true, (s.drop (i + 1)).take N⟩], [], rfl, ?_, hT.out.chg ((Chg.refl [g] _).setCell (p := ⟨g, 1, none⟩) (.inl (by simp)) _) (by intro k hk; simp at hk; subst hk; exact ⟨_, _, hP.out⟩), hC.out.setCell (.inl (by simp)) _, h2, by omega, by simp [flush]; omega, rfl⟩
                        have hput := hP.out.put ((i + 1 + N : Nat) : Int)
                        first
                        | exact hput
                        | (have e9 : (((i + 1 + N) : Nat) : Int) = (i : Int) + (1 + (N : Int)) := by omega
                           rw [e9] at hput ⊢
                           exact hput)
                    exact AllReady.nil
                  exact AllReady.nil
                exact AllReady.nil
              refine AllReady.cons rfl (fun K hK => ?_) ?_
              · (go_simp; refine hK _ _ ?_; clear hK K)
                (try simp only [Act.put, List.setIfInBounds_toArray, List.set_cons_zero, List.set_cons_succ])
                refine wpAny_ready (rs := [0]) (by kernel_rfl) (by simp) ?_
                refine AllReady.cons rfl (fun K hK => ?_) ?_
                · (go_simp; refine hK _ _ ?_; clear hK K)
                  (try simp only [Act.put, List.setIfInBounds_toArray, List.set_cons_zero, List.set_cons_succ])
                  refine wpAny_ready (rs := [6]) (by kernel_rfl) (by simp) ?_
                  refine AllReady.cons rfl (fun K hK => ?_) ?_
                  · (refine step_append_sl rfl (.tmp 116) (.tmp 121) 36 rfl w.heap.size 42 (.agg #[.bool false, .string ByteArray.empty]) 2 24 Try.underlying36 Try.info_part rfl (by decide) _ l2.length (partsCells l2) (p3.out.alloc _) rfl _ 1 (partCells ⟨true, (s.drop (i + 1)).take N⟩) (by rw [hRx.out]; exact sl_wide_new w6 _ 42 2 rfl) rfl (by intro u hu; simp [partCells] at hu; rcases hu with rfl | rfl <;> rfl) (l2.length + 1) rfl (by omega) (by decide) (by have := hC.out.size; simp; omega) ?_; intro A' c' w7 hO' hCh hat; obtain ⟨q3, q4, hT7, hC7, hk7⟩ := parts_step (p := ⟨true, (s.drop (i + 1)).take N⟩) p1.out p2.out p3.out p4.out p5 p6 hC.out hO' (((Chg.refl _ w6).alloc _).trans hCh); have hP7 := hk7 _ _ _ hP.out; replace hT := Lib.hid hT7; replace hC := Lib.hid hC7; replace hP : Hid (PS (w7.setCell ⟨w.heap.size, 0, none⟩ (.slice A' (l2.length + 1) c')) g B i a0 0) := hP7; clear hT7 hC7 hP7 hk7 hO' hCh hat p1 p2 p3 p4 p5 p6 q1 q1a; refine hK _ _ ?_; clear hK K)
                    (try simp only [Act.put, List.setIfInBounds_toArray, List.set_cons_zero, List.set_cons_succ])
                    refine wpAny_ready (rs := [7]) (by kernel_rfl) (by simp) ?_
                    refine AllReady.cons rfl (fun K hK => ?_) ?_
                    · (go_simp; refine hK _ _ ?_; clear hK K)
                      (try simp only [Act.put, List.setIfInBounds_toArray, List.set_cons_zero, List.set_cons_succ])
                      refine wpAny_done (by kernel_rfl) ?_ _
                      (try simp only [Act.put, List.setIfInBounds_toArray, List.set_cons_zero, List.set_cons_succ])
                      obtain ⟨c0, c1, -, -⟩ := hP.out.c0
                      have f1 := hP.out.f0 1
                      go_wp2_with fail
                      go_roundg (s.length - (i + 1 + N))
                      case measure => omega
                      case rel =>
                        refine ⟨i + 1 + N, l2 ++ [⟨true, (s.drop (i + 1)).take N⟩], [], rfl, ?_, hT.out.chg ((Chg.refl [g] _).setCell (p := ⟨g, 1, none⟩) (.inl (by simp)) _) (by intro k hk; simp at hk; subst hk; exact ⟨_, _, hP.out⟩), hC.out.setCell (.inl (by simp)) _, h2, by omega, by simp [flush]; omega, rfl⟩
                        have hput := hP.out.put ((i + 1 + N : Nat) : Int)
                        first
                        | exact hput
                        | (have e9 : (((i + 1 + N) : Nat) : Int) = (i : Int) + (1 + (N : Int)) := by omega
                           rw [e9] at hput ⊢
                           exact hput)
                    exact AllReady.nil
                  exact AllReady.nil
                exact AllReady.nil
              exact AllReady.nil

        have b36 := u8n (n := 36) q36
        have h2 : Hid (partsGo stop s fr i0 [] [] = partsGo stop s fr (i + 1) l (text ++ [c])) := h1.trans (if_neg q36)
        clear h1 q36
        obtain ⟨A, cA, A2, c2, p1, p2, p3, p4, p5, p6⟩ := hT.out
        have q1 : w2.cell? ⟨bt, 0, none⟩ = some (Value.slice A2 text.length c2) := by simp [World.cell?, p2]
        have hbase := hC.out.size
        have hO := Lib.hid (p4.alloc (.cells #[.int .u8 c.toNat] 5))
        replace p1 := Lib.hid p1
        replace p2 := Lib.hid p2
        replace p3 := Lib.hid p3
        replace p4 := Lib.hid p4
        go_wp2_with (at_builtin; refine wpList_append_sl rfl (.tmp 36) (.tmp 38) 22 rfl w.heap.size 5 (.int .u8 0) 1 1 Try.underlying22 Try.info_u8 rfl (by decide) _ text.length (cellsOf .u8 (nums text)) rfl hO.out _ 1 (cellsOf .u8 (nums [c])) rfl (sl_new _ [.int .u8 c.toNat] 5 1 rfl (by decide)) cellsOf_one (text.length + 1) rfl (by omega) (by decide) (by simp; omega) ?_)
        intro A' c' w5 hO' hCh hat
        obtain ⟨q3, q4, hT5, hC5, hk5⟩ := text_step p1.out p2.out p3.out p4.out p5 p6 hC.out hO' hCh
        have hP5 := hk5 _ _ _ hP.out
        replace hT := Lib.hid hT5
        replace hC := Lib.hid hC5
        replace hP : Hid (PS (w5.setCell ⟨bt, 0, none⟩ (.slice A' (text.length + 1) c')) g B i a0 0) := hP5
        clear hT5 hC5 hP5 hk5 hO' hCh hat hO p1 p2 p3 p4 p5 p6 q1 c0 c1 f1 hbase
        obtain ⟨c0, c1, -, -⟩ := hP.out.c0
        have f1 := hP.out.f0 1
        go_wp2_with fail
        go_roundg (s.length - (i + 1))
        case measure => omega
        case rel =>
          refine ⟨i + 1, l, text ++ [c], rfl, ?_, hT.out.chg ((Chg.refl [g] _).setCell (p := ⟨g, 1, none⟩) (.inl (by simp)) _) (by intro k hk; simp at hk; subst hk; exact ⟨_, _, hP.out⟩), hC.out.setCell (.inl (by simp)) _, h2, by omega, by simp [flush]; omega, rfl⟩
          have hput := hP.out.put ((i + 1 : Nat) : Int)
          first
          | exact hput
          | (have e9 : (((i + 1) : Nat) : Int) = (i : Int) + 1 := by omega
             rw [e9] at hput ⊢
             exact hput)

    · have hn : s[i]? = none := List.getElem?_eq_none (by omega)
      have hE := Lib.hid (hgo.out.trans (parts_none hn))
      go_wp2_with fail
      go_quiet (fail)
      replace hP : Hid (PS (wr.drewN nq) g B i a0 0) := hP.out
      replace hT : Hid (PSt (wr.drewN nq) w.heap.size w.heap.size bt l text) := hT.out
      replace hC : Hid (Chg [g] w (wr.drewN nq)) := hC.out.drewN nq
      clear c0 c1
      generalize World.drewN _ _ = w1 at hP hT hC ⊢
      obtain ⟨c0, c1, -, -⟩ := hP.out.c0
      have f1 := hP.out.f0 1
      go_wp2_with fail
      refine (flush_any w _ [g] w.heap.size bt l text hT.out hC.out (by omega) (by omega)).mono ?_
      rintro e w9 ⟨rfl, hT9, hC9, hk9⟩
      have hP9 := hk9 _ _ _ hP.out
      obtain ⟨A, c9, A2, c2, p1, p2, p3, p4, p5, p6⟩ := hT9
      have q1 : w9.cell? ⟨w.heap.size, 0, none⟩ = some (.slice A (flush l text).length c9) := by simp [World.cell?, p1]
      have hS9 := Lib.hid (own_sl p3)
      have hB9 := Lib.hid (fun q hq => (p3.lt q hq).1)
      replace hP9 := Lib.hid hP9
      replace hC9 := Lib.hid hC9
      clear hT hC hP hk9 p1 p2 p3 p4 p5 p6
      go_wp2_with fail
      (try rw [Exit.noGoto_ret])
      go_ret
      exact ⟨A, _, c9, rfl, hC9.out, .inl ⟨_, _, hE.out, hP9.out, rfl, hS9.out, hB9.out⟩⟩
end Go.Proofs.Ytakcolililbkjaa
