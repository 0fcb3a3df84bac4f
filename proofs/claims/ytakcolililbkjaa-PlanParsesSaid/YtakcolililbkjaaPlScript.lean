/- Contracts of package plan's script and Parse. Conditions: as they state. -/
import Derived.Test.YtakcolililbkjaaPlCo
set_option linter.unusedVariables false
set_option linter.unusedSimpArgs false
namespace Go.Proofs.Ytakcolililbkjaa
namespace Pl
open Go.RowKit Tcl Plan
theorem Try.info_op : (Try.prog.info? 35).map (fun i => (i.zero, i.size, i.bytes)) = some (some (.agg #[.int .i64 0, .int .i64 0, .slice none 0 0, .slice none 0 0]), 4, 64) := by kernel_rfl
theorem OS.c0 {w : World} {g : Nat} {k a : Int} {s b : Value} (h : OS w g k a s b) : w.cell? ⟨g, 0, none⟩ = some (.int .i64 k) ∧ w.cell? ⟨g, 1, none⟩ = some (.int .i64 a) ∧ w.cell? ⟨g, 2, none⟩ = some s ∧ w.cell? ⟨g, 3, none⟩ = some b := by
  unfold OS at h; simp [World.cell?, h]
/-- A command of a parsed text. -/
theorem cmd_wd {t : List UInt8} {b : Nat} {cs : List Cmd} {M : Nat} (h : parseAt t b = .ok cs) (hb : b + t.length ≤ M) : cs.length ≤ t.length ∧ ∀ c ∈ cs, c.words ≠ [] ∧ c.at_ ≤ M ∧ Wd t.length M c.words := by
  unfold parseAt at h
  split at h
  · cases h
  · rename_i l hp
    cases h
    have hr := parse_row hp
    refine ⟨by rw [List.length_map]; exact hr.2.2.2, fun c hc => ?_⟩
    obtain ⟨c0, k4, rfl⟩ := List.mem_map.1 hc
    obtain ⟨h1, ⟨w0, r, h2, -⟩, h3⟩ := hr.1 c0 k4
    refine ⟨by simp [shiftC, h2], by simp only [shiftC]; omega, fun w hw => ?_⟩
    obtain ⟨w1, k5, rfl⟩ := List.mem_map.1 hw
    have hin := h3 w1 k5
    have i1 := hin.1
    refine ⟨by simp only [shiftW]; omega, fun hk2 => ?_⟩
    have i2 := hin.2 hk2
    rw [openT_sh]
    simp only [shiftW]
    omega
/-- The operations of parsed commands. -/
def scrA (rec : List UInt8 → Nat → Except Bad (List Plan.Op)) (body : Bool) : Except Bad (List Cmd) → Except Bad (List Plan.Op)
  | .error e => .error e
  | .ok cs => cmdsGo rec body cs []
set_option maxRecDepth 100000 in
set_option maxHeartbeats 16000000 in
theorem script_step (rec : List UInt8 → Nat → Except Bad (List Plan.Op)) (t : List UInt8) (b : Nat) (body : Bool) (M : Nat) (hrec : RecOk rec t.length M) (ht : t.length ≤ 16777216) (hb : b + t.length ≤ M) (hM : M ≤ 1099511627776) (w : World) :
    Calls Try.prog 16 #[.string (bstr t), .int .i64 b, .bool body] w (ScEnd w (scrA rec body (parseAt t b))) := by
  unfold ScEnd
  have hp := Lib.hid (pparse_any (w.alloc (.cells #[.int .i64 0, .int .i64 0] 55)) t b ht (by omega))
  have hsm := Lib.hid (fun e w' (h : PpEnd (w.alloc (.cells #[.int .i64 0, .int .i64 0] 55)) t b e w') => h.some)
  have hWS := Lib.hid (show WS (w.alloc (.cells #[.int .i64 0, .int .i64 0] 55)) w.heap.size 0 0 from blk_new _ _)
  have hC := Lib.hid ((Chg.refl [] w).alloc (.cells #[.int .i64 0, .int .i64 0] 55))
  have hsz : Hid (w.heap.size + 1 = (w.alloc (.cells #[.int .i64 0, .int .i64 0] 55)).heap.size) := Lib.hid (Array.size_push ..).symm
  obtain ⟨r, hr⟩ : ∃ r, parseAt t b = r := ⟨_, rfl⟩
  have hcw : ∀ cs, r = .ok cs → cs.length ≤ 16777216 ∧ ∀ c ∈ cs, c.words ≠ [] ∧ c.at_ ≤ M ∧ Wd t.length M c.words := fun cs h => by
    have h2 := cmd_wd (hr.trans h) hb
    exact ⟨by omega, h2.2⟩
  rw [hr] at hsm ⊢
  obtain ⟨R, hR⟩ : ∃ R, scrA rec body r = R := ⟨_, rfl⟩
  rw [hR]
  obtain ⟨Z, hZ⟩ : ∃ Z, bstr t = Z := ⟨_, rfl⟩
  rw [hZ] at hp ⊢
  clear hZ hr
  replace hR := Lib.hid hR
  replace hcw := Lib.hid hcw
  replace hrec := Lib.hid hrec
  obtain ⟨g7, hg7⟩ : ∃ g7, w.heap.size = g7 := ⟨_, rfl⟩
  rw [hg7] at hWS
  have hg7' := Lib.hid hg7
  go_enter Try.func16, Try.ntmps16
  go_wp2_with fail
  (try rw [hg7])
  generalize w.alloc _ = w1 at hp hsm hWS hC hsz ⊢
  refine (hp.out).mono ?_
  rintro e w2 h2
  obtain ⟨hC2, V, pp, qq, rfl, hSc⟩ := hsm.out _ _ h2
  clear hp hsm h2 hg7
  have hc9 := (Chg.refl [] w2).alloc (.cells #[.int .i64 pp, .int .i64 qq] 55)
  have hX := Lib.hid (show WS (w2.alloc (.cells #[.int .i64 pp, .int .i64 qq] 55)) w2.heap.size pp qq from blk_new _ _)
  have hSc2 := Lib.hid (hSc w1.heap.size w2.heap.size [] _ (Nat.le_refl _) hc9 (by simp) (.inr (Nat.le_refl _)))
  replace hWS := Lib.hid ((hWS.out.chg hC2 (by simp)).chg hc9 (by simp))
  replace hC := Lib.hid ((hC.out.trans hC2).trans hc9)
  obtain ⟨g9, hg9⟩ : ∃ g9, w2.heap.size = g9 := ⟨_, rfl⟩
  rw [hg9] at hX hSc2
  have hg9l : Hid (w.heap.size + 1 ≤ g9) := Lib.hid (by have h1 := hsz.out; have h2 := hC2.size; omega)
  have hg9u : Hid (g9 < (w2.alloc (.cells #[.int .i64 pp, .int .i64 qq] 55)).heap.size) := Lib.hid (by rw [← hg9, show ∀ (x : World) y, (x.alloc y).heap.size = x.heap.size + 1 from fun _ _ => Array.size_push ..]; omega)
  clear hSc hC2 hc9
  have hun : ∃ (cs : List Cmd) (A5 : Option Addr) (c5 : Nat), V = .slice A5 (List.length cs) c5 ∧ CmV (w2.alloc (.cells #[.int .i64 pp, .int .i64 qq] 55)) (fun x => w1.heap.size ≤ x ∧ x ≠ g9) (.slice A5 (List.length cs) c5) cs ∧
      ((qq = 0 ∧ pp = 0 ∧ cmdsGo rec body cs [] = R) ∨ (qq ≠ 0 ∧ R = .error (pp, qq))) ∧ (cs.length ≤ 16777216 ∧ ∀ c ∈ cs, c.words ≠ [] ∧ c.at_ ≤ M ∧ Wd t.length M c.words) := by
    rcases hSc2.out with ⟨l, A, c, h1, rfl, rfl, rfl, h2⟩ | ⟨h1, h2, rfl⟩
    · exact ⟨l, A, c, rfl, h2, .inl ⟨rfl, rfl, by have := hR.out; rw [h1] at this; exact this⟩, hcw.out l h1⟩
    · exact ⟨[], none, 0, rfl, ⟨[], Sl.nil _ _, fun q h0 => absurd h0 (by simp), rfl⟩, .inr ⟨h2, by have := hR.out; rw [h1] at this; exact this.symm⟩, by simp⟩
  obtain ⟨cs, A5, c5, rfl, hCm, hst, hcb⟩ := hun
  obtain ⟨n5, hn5⟩ : ∃ n5, List.length cs = n5 := ⟨_, rfl⟩
  rw [hn5] at hCm ⊢
  replace hCm := Lib.hid hCm
  replace hst := Lib.hid hst
  replace hcb := Lib.hid hcb
  replace hn5 := Lib.hid hn5
  clear hSc2 hR hcw
  go_upto_region 3 with fail
  (try rw [hg9])
  generalize hwx : w2.alloc _ = wx at hX hCm hWS hC hg9u ⊢
  clear hwx hg9
  have hw9 : Hid (w.heap.size + 1 ≤ w1.heap.size) := Lib.hid (by have h1 := hsz.out; omega)
  have hgw : ∀ i cm, cs[i]? = some cm → ∃ b5 o5 A6 c6 ys, A5 = some ⟨b5, o5, none⟩ ∧ b5 ≠ g9 ∧ wx.cell? ⟨b5, o5 + i * 2, none⟩ = some (.int .i64 cm.at_) ∧ wx.cell? ⟨b5, o5 + i * 2 + 1, none⟩ = some (.slice A6 cm.words.length c6) ∧ Sl wx 3 (.slice A6 cm.words.length c6) cm.words.length ys ∧ Blk wx (fun q => w.heap.size + 1 ≤ q ∧ q ≠ g9 ∧ q < wx.heap.size) (.slice A6 cm.words.length c6) cm.words.length ∧ wordsC wx (fun q => w.heap.size + 1 ≤ q ∧ q ≠ g9 ∧ q < wx.heap.size) ys cm.words := fun i cm hcm => by
    obtain ⟨xs, hS, hBk, hcs⟩ := hCm.out
    have hil := (List.getElem?_eq_some_iff.1 hcm).1
    have hxl := hcs.len
    rw [hn5.out] at hS
    obtain ⟨b5, o5, rfl, h2⟩ := sl_row hS (by omega)
    obtain ⟨A6, c6, ys, e1, e2, h3, h4, h5⟩ := cmdsC.get hcs hcm
    have h9 := hw9.out
    refine ⟨b5, o5, A6, c6, ys, rfl, (hBk b5 (by omega) rfl).1.2, h2 _ _ e1, ?_, h3, h4.imp (fun q hq hl => ⟨by have := hq.1; omega, hq.2, hl⟩), wordsC.imp (fun q hq hl => ⟨by have := hq.1; omega, hq.2, hl⟩) h5⟩
    rw [Nat.add_assoc]; exact h2 _ _ e2
  replace hgw := Lib.hid hgw
  clear hCm
  go_wp2_with fail
  go_loopg [10, 22] n5 (fun gk v10 v22 wr => ∃ (i : Nat) (A6 : Option Addr) (c6 : Nat) (acc : List Plan.Op) (xs : List Value) (p q : Nat), v10 = .slice A6 (List.length acc) c6 ∧ v22 = .int .i64 i ∧ i ≤ n5 ∧ gk = n5 - i ∧ List.length acc ≤ i ∧ Hid (WS wr g9 p q) ∧
    Hid ((q = 0 ∧ p = 0 ∧ cmdsGo rec body (cs.drop i) acc = R) ∨ (q ≠ 0 ∧ R = .error (p, q))) ∧ Hid (wr.ownsRow wx.heap.size 35 4 (.slice A6 (List.length acc) c6) (List.length acc) xs) ∧ Hid (opsC wr (fun x => w.heap.size + 1 ≤ x ∧ x ≠ g9 ∧ (Value.slice A6 (List.length acc) c6).ownBlock ≠ some x) xs acc) ∧ Hid (Chg [g9] wx wr))
  case atStart => exact ⟨0, none, 0, [], [], pp, qq, rfl, rfl, by omega, rfl, by simp, hX, by rw [List.drop_zero]; exact hst, Lib.hid (World.ownsRow_nil _ _ _ _), Lib.hid (by rw [opsC]), Lib.hid (Chg.refl _ _)⟩
  case round =>
    obtain ⟨i, A6, c6, acc, xs, p, q, rfl, rfl, hi, rfl, hai, hX2, hst2, hO, hOp, hCr⟩ := hrel
    clear hX hst
    have hnb : n5 ≤ 16777216 := by have h1 := hcb.out.1; have h2 := hn5.out; omega
    obtain ⟨x0, x1⟩ := hX2.out.c0
    have hWr := Lib.hid (hWS.out.chg hCr.out (by have := hg9l.out; have := hg7'.out; simp; omega))
    have hCw := Lib.hid (hC.out.then hCr.out (by intro x hx; simp at hx; subst hx; right; have := hg9l.out; omega))
    have herr : Hid (q ≠ 0 → R = .error (p, q)) := Lib.hid (fun h => by rcases hst2.out with ⟨h1, -⟩ | ⟨-, h2⟩; exact absurd h1 h; exact h2)
    by_cases hlt : i < n5
    · obtain ⟨cm, hcm⟩ : ∃ cm, cs[i]? = some cm := ⟨_, List.getElem?_eq_getElem (by have := hn5.out; omega)⟩
      obtain ⟨b5, o5, A7, c7, ys7, rfl, hb59, u0, u1, hS7, hBk7, hw7⟩ := hgw.out i cm hcm
      obtain ⟨hcn, hca, hcwd⟩ := hcb.out.2 cm (List.mem_of_getElem? hcm)
      replace u0 := hCr.out.cell u0 (by simpa using hb59)
      replace u1 := hCr.out.cell u1 (by simpa using hb59)
      obtain ⟨m7, hm7⟩ : ∃ m7, List.length cm.words = m7 := ⟨_, rfl⟩
      have hWV : WsV wr (fun q => w.heap.size + 1 ≤ q ∧ q ≠ g9 ∧ q < wx.heap.size) A7 m7 c7 cm.words :=
        WsV.chg ⟨hm7.symm, ys7, by rw [← hm7]; exact hS7, by rw [← hm7]; exact hBk7, hw7⟩ hCr.out (fun q hq _ hm => by simp at hm; exact hq.2.1 hm)
      rw [hm7] at u1
      replace hm7 := Lib.hid hm7
      replace hWV := Lib.hid hWV
      replace hcn := Lib.hid hcn
      replace hcwd := Lib.hid hcwd
      replace hb59 := Lib.hid hb59
      have hc3 := (Chg.refl [] wr).alloc (.cells #[.int .i64 cm.at_, .slice A7 m7 c7] 69)
      clear hS7 hBk7 hw7
      by_cases hq0 : q = 0
      · have hR3 : p = 0 ∧ (match cmdOp rec body cm with | .error b => Except.error b | .ok o => cmdsGo rec body (cs.drop (i + 1)) (acc ++ [o])) = R := by
          rcases hst2.out with ⟨-, h1, h2⟩ | ⟨h1, -⟩
          · rw [drop_get hcm, cmdsGo] at h2
            exact ⟨h1, h2⟩
          · exact absurd hq0 h1
        obtain ⟨rfl, hR3⟩ := hR3
        replace hR3 := Lib.hid hR3
        subst hq0
        obtain ⟨wd, hwd⟩ : ∃ wd, (wr.alloc (.cells #[.int .i64 cm.at_, .slice A7 m7 c7] 69)).alloc (.cells #[.int .i64 0, .int .i64 0, .slice none 0 0, .slice none 0 0] 35) = wd := ⟨_, rfl⟩
        have hsz1 : (wr.alloc (.cells #[.int .i64 cm.at_, .slice A7 m7 c7] 69)).heap.size = wr.heap.size + 1 := Array.size_push ..
        have hszd : wd.heap.size = wr.heap.size + 2 := by rw [← hwd, show ∀ (x : World) y, (x.alloc y).heap.size = x.heap.size + 1 from fun _ _ => Array.size_push .., hsz1]
        have hcd : Chg [] wr wd := by rw [← hwd]; exact hc3.alloc _
        have hK : CS wd wr.heap.size (.int .i64 cm.at_) (.slice A7 m7 c7) := by rw [← hwd]; exact blk_alloc (blk_new _ _) _
        have hOS : OS wd (wr.heap.size + 1) 0 0 (.slice none 0 0) (.slice none 0 0) := by rw [← hwd, ← hsz1]; exact blk_new _ _
        obtain ⟨k0, k1⟩ := hK.c0
        have hxr := hCr.out.size
        have h9l := hg9l.out
        have h9u := hg9u.out
        have hco := pcommand_any rec t.length M hrec.out (by omega) hM wd (fun q => (w.heap.size + 1 ≤ q ∧ q ≠ g9 ∧ q < wx.heap.size) ∨ wd.heap.size ≤ q) cm A7 m7 c7 body ((hWV.out.chg hcd (fun _ _ _ => by simp)).imp (fun q hq _ => .inl hq)) hcwd.out hcn.out hca (fun q hq => .inr hq)
        have hX4 := hX2.out.chg hcd (by simp)
        have e9 := hX4.c0.2
        have e9a : (wr.alloc (.cells #[.int .i64 cm.at_, .slice A7 m7 c7] 69)).cell? ⟨g9, 1, none⟩ = some (.int .i64 0) := (hX2.out.chg hc3 (by simp)).c0.2
        replace hco := Lib.hid hco
        replace hX4 := Lib.hid hX4
        replace hOS := Lib.hid hOS
        replace hcd := Lib.hid hcd
        replace hszd := Lib.hid hszd
        obtain ⟨hxr', h9l', h9u'⟩ : Hid (wx.heap.size ≤ wr.heap.size) ∧ Hid (w.heap.size + 1 ≤ g9) ∧ Hid (g9 < wx.heap.size) := ⟨Lib.hid hxr, Lib.hid h9l, Lib.hid h9u⟩
        clear hsz1 hK hc3 hst2 herr hxr h9l h9u
        go_wp2_with fail
        clear hwd k0 k1 e9 e9a u0 u1 x0 x1
        refine (hco.out).mono ?_
        rintro e w8 h8
        obtain ⟨hC8, hcase⟩ := h8
        obtain ⟨g13, hg13⟩ : ∃ g13, wr.heap.size + 1 = g13 := ⟨_, rfl⟩
        rw [hg13] at hOS ⊢
        have hne : ¬ g13 = g9 := by have := hxr'.out; have := h9u'.out; omega
        replace hOS := Lib.hid (hOS.out.chg hC8 (by simp))
        replace hX4 := Lib.hid (hX4.out.chg hC8 (by simp))
        have hg13' := Lib.hid hg13
        have hne' := Lib.hid hne
        have hall : Hid (∀ W9, Chg [g13, g9] w8 W9 → Chg [g9] wr W9 ∧ W9.heap.size ≥ w8.heap.size) := Lib.hid (fun W9 h => ⟨((Chg.mono hcd.out (S1 := [g9]) (by simp)).trans (Chg.mono hC8 (by simp))).then h (by intro x hx; simp at hx; rcases hx with rfl | rfl; exact .inr (by have := hg13'.out; omega); exact .inl (by simp)), h.size⟩)
        replace hC8 := Lib.hid hC8
        clear hco hg13 hne
        rcases hcase with ⟨o, v0, v1, v2, v3, ho, rfl, hop⟩ | ⟨p5, q5, ho, hq5, rfl⟩
        · obtain ⟨k, a, s1, s2, rfl, rfl, rfl, rfl, o1, o2⟩ : ∃ (k a : Int) (s1 s2 : Value), v0 = .int .i64 k ∧ v1 = .int .i64 a ∧ v2 = s1 ∧ v3 = s2 ∧ s1.oneCell' = true ∧ s2.oneCell' = true := by
            cases o
            rw [opC] at hop
            obtain ⟨_, _, _, _, _, _, h, -⟩ := hop
            simp only [List.cons.injEq] at h
            obtain ⟨rfl, rfl, rfl, rfl, -⟩ := h
            exact ⟨_, _, _, _, rfl, rfl, rfl, rfl, rfl, rfl⟩
          have hP := co_put hOS.out hX4.out hne'.out k a v2 v3 0 0
          have hT := WS.chg (w := w8) hX4.out (Chg_setRow (Chg.refl [g13] w8) (g := g13) (.inl (by simp)) #[.int .i64 k, .int .i64 a, v2, v3]) (by have := hne'.out; simp; omega)
          obtain ⟨t0, t1⟩ := WS.c0 hT
          have tf0 := WS.f0 hT 0
          have tf1 := WS.f0 hT 1
          have hR4 := Lib.hid (show cmdsGo rec body (cs.drop (i + 1)) (acc ++ [o]) = R by have := hR3.out; rw [ho] at this; exact this)
          replace hP := Lib.hid hP
          replace hT := Lib.hid hT
          replace hop := Lib.hid hop
          clear hR3 ho
          go_upto_region 9 with (refine wpList_store_op rfl (.tmp 13) (.tmp 33) rfl g13 k a v2 v3 o1 o2 rfl rfl hOS.out ?_)
          clear t0 t1 tf0 tf1
          generalize hw9 : World.setCell _ _ _ = W9 at hP ⊢
          clear hw9
          obtain ⟨hQ9, hX9, hCh9⟩ := hP.out
          obtain ⟨hA9, hA9s⟩ := hall.out W9 hCh9
          have z1 := hX9.c0.2
          obtain ⟨y0, y1, y2, y3⟩ := hQ9.c0
          have hO9 := Lib.hid (own_chg hO.out hA9 (fun q hq hm => by have := (hO.out.lt q hq).1; have := h9u'.out; simp at hm; omega))
          have hOp9 := opsC.chg hA9 (fun q hq _ hm => by simp at hm; exact hq.2.1 hm) _ _ hOp.out
          have hCr9 := Lib.hid (hCr.out.trans hA9)
          have hop9 : opC W9 (fun x => w.heap.size + 1 ≤ x ∧ x ≠ g9 ∧ (Value.slice A6 (List.length acc) c6).ownBlock ≠ some x) [.int .i64 k, .int .i64 a, v2, v3] o := by
            have d1 := hxr'.out
            have d2 := hszd.out
            have d3 := hg13'.out
            have d4 := h9u'.out
            have d5 := h9l'.out
            refine opC.imp (fun q hq _ => ?_) _ _ (opC.chg hCh9 (fun q hq _ hm => ?_) _ _ hop.out)
            · rcases hq with ⟨j1, j2, j3⟩ | j1
              · exact ⟨j1, j2, fun e => by have := (hO.out.lt q e).1; omega⟩
              · exact ⟨by omega, by omega, fun e => by have := (hO.out.lt q e).2; omega⟩
            · simp at hm
              rcases hq with ⟨j1, j2, j3⟩ | j1
              · rcases hm with rfl | rfl
                · omega
                · exact j2 rfl
              · rcases hm with rfl | rfl <;> omega
          have hsn := Lib.hid (opsC.snoc hop9 hOp9)
          have hone := Lib.hid (show ∀ u ∈ [Value.int .i64 k, .int .i64 a, v2, v3], u.oneCell' = true from by intro u hu; simp at hu; rcases hu with rfl | rfl | rfl | rfl <;> first | rfl | exact o1 | exact o2)
          have hbase : wx.heap.size ≤ W9.heap.size := hCr9.out.size
          replace hX9 := Lib.hid hX9
          clear hP hQ9 hCh9 hA9 hO hOp hCr hOS hX4 hT hop hop9 hOp9
          go_wp2_with (at_builtin; refine wpList_append_sl rfl (.tmp 38) (.tmp 40) 26 rfl wx.heap.size 35 (.agg #[.int .i64 0, .int .i64 0, .slice none 0 0, .slice none 0 0]) 4 64 Try.underlying26 Try.info_op rfl (by decide) _ (List.length acc) xs rfl (hO9.out.alloc _) _ 1 [.int .i64 k, .int .i64 a, v2, v3] rfl (sl_wide_new W9 _ 35 4 rfl) hone.out (List.length acc + 1) rfl (by omega) (by decide) (by simp; omega) ?_)
          intro A' c' w5 hO' hCh hat
          have hlen : List.length (acc ++ [o]) = List.length acc + 1 := by simp
          have hCh2 : Chg (Value.slice A6 (List.length acc) c6).ownBlock.toList W9 w5 := ((Chg.refl _ W9).alloc _).trans hCh
          have hnew : ∀ q, q < W9.heap.size → (Value.slice A6 (List.length acc) c6).ownBlock ≠ some q → (Value.slice A' (List.length acc + 1) c').ownBlock ≠ some q := fun q hq hn e => by
            rcases hat with h | h
            · exact hn (h ▸ e)
            · have := h q e; (try simp at this); omega
          have hs1 := opsC.imp (B' := fun q => (w.heap.size + 1 ≤ q ∧ q ≠ g9 ∧ (Value.slice A6 (List.length acc) c6).ownBlock ≠ some q) ∧ q < W9.heap.size) (fun q hq hl => ⟨hq, hl⟩) _ _ hsn.out
          have hs2 := opsC.chg hCh2 (fun q hq _ hm => by simp at hm; exact hq.1.2.2 hm) _ _ hs1
          have hopN := Lib.hid (opsC.imp (B' := fun x => w.heap.size + 1 ≤ x ∧ x ≠ g9 ∧ (Value.slice A' (List.length acc + 1) c').ownBlock ≠ some x) (fun q hq _ => ⟨hq.1.1, hq.1.2.1, hnew q hq.2 hq.1.2.2⟩) _ _ hs2)
          clear hs1 hs2
          have hXN := Lib.hid (hX9.out.chg hCh2 (fun hm => by have := (hO9.out.lt g9 (by simpa using hm)).1; have := h9u'.out; omega))
          have hCN := Lib.hid (hCr9.out.then hCh2 (fun q hq => .inr (hO9.out.lt q (by simpa using hq)).1))
          replace hO' := Lib.hid hO'
          clear hCh hat hCh2 hnew hsn hO9 hX9 hCr9 y0 y1 y2 y3 z1
          go_wp2_with fail
          go_roundg (n5 - (i + 1))
          case measure => omega
          case rel => exact ⟨i + 1, A', c', acc ++ [o], xs ++ [.int .i64 k, .int .i64 a, v2, v3], 0, 0, by rw [hlen], rfl, by omega, rfl, by rw [hlen]; omega, hXN, Lib.hid (.inl ⟨rfl, rfl, hR4.out⟩), by rw [hlen]; exact hO', by rw [hlen]; exact hopN, hCN⟩
        · have hP := co_put hOS.out hX4.out hne'.out 0 0 (.slice none 0 0) (.slice none 0 0) (p5 : Int) (q5 : Int)
          have hT := WS.chg (w := w8) hX4.out (Chg_setRow (Chg.refl [g13] w8) (g := g13) (.inl (by simp)) #[.int .i64 0, .int .i64 0, .slice none 0 0, .slice none 0 0]) (by have := hne'.out; simp; omega)
          obtain ⟨t0, t1⟩ := WS.c0 hT
          have tf0 := WS.f0 hT 0
          have tf1 := WS.f0 hT 1
          have hE := Lib.hid (show R = .error (p5, q5) by have := hR3.out; rw [ho] at this; exact this.symm)
          have hqz : ((q5 : Int) == 0) = false := by rw [beq_eq_false_iff_ne]; omega
          replace hq5 := Lib.hid hq5
          replace hP := Lib.hid hP
          replace hT := Lib.hid hT
          clear hR3 ho
          go_upto_region 9 with (refine wpList_store_op rfl (.tmp 13) (.tmp 33) rfl g13 0 0 (.slice none 0 0) (.slice none 0 0) rfl rfl rfl rfl hOS.out ?_)
          clear t0 t1 tf0 tf1
          generalize hw9 : World.setCell _ _ _ = W9 at hP ⊢
          clear hw9
          obtain ⟨hQ9, hX9, hCh9⟩ := hP.out
          obtain ⟨hA9, hA9s⟩ := hall.out W9 hCh9
          have z1 := hX9.c0.2
          have hO9 := Lib.hid (own_chg hO.out hA9 (fun q hq hm => by have := (hO.out.lt q hq).1; have := h9u'.out; simp at hm; omega))
          have hOp9 := Lib.hid (opsC.chg hA9 (fun q hq _ hm => by simp at hm; exact hq.2.1 hm) _ _ hOp.out)
          have hCr9 := Lib.hid (hCr.out.trans hA9)
          replace hX9 := Lib.hid hX9
          clear hP hQ9 hCh9 hA9 hO hOp hCr hOS hX4 hT
          go_wp2_with fail
          go_roundg (n5 - (i + 1))
          case measure => omega
          case rel => exact ⟨i + 1, A6, c6, acc, xs, p5, q5, rfl, rfl, by omega, rfl, by omega, hX9, Lib.hid (.inr ⟨hq5.out, hE.out⟩), hO9, hOp9, hCr9⟩
      · have hX3 := Lib.hid (hX2.out.chg hc3 (by simp))
        have hWr3 := Lib.hid (hWr.out.chg hc3 (by simp))
        have hCw3 := Lib.hid (hCw.out.trans hc3)
        clear hc3
        have hE := Lib.hid (herr.out hq0)
        have hne : ((q : Int) != 0) = true := by simp; omega
        have hq0' := Lib.hid hq0
        clear hq0
        obtain ⟨s0, s1⟩ := hWr.out.c0
        have f0 := hWr.out.f0 0
        have f1 := hWr.out.f0 1
        clear hst2 hO hOp herr
        obtain ⟨x2, x3⟩ := hX3.out.c0
        go_upto_region 13 with fail
        clear x2 x3
        generalize hwz : wr.alloc _ = wz at hX3 hWr3 hCw3 ⊢
        clear hwz s0 s1 f0 f1 x0 x1
        obtain ⟨x0, x1⟩ := hX3.out.c0
        obtain ⟨s0, s1⟩ := hWr3.out.c0
        have f0 := hWr3.out.f0 0
        have f1 := hWr3.out.f0 1
        refine wp_region_any (by kernel_rfl) ?_
        (try (change wpAny _ _ _ _ _ _ _ (World.drew _)))
        refine wpAny_take (i := 1) (v := ?_) rfl (by kernel_rfl) (by kernel_rfl) (by kernel_rfl) (fun _ _ _ h => h) (Or.inl ⟨by kernel_rfl, ?_⟩) ?_
        rotate_left
        · (intro w; go_simp; try with_reducible rfl)
        change wpAny _ _ _ _ _ _ (Act.put _ (some 6) _) _
        (try simp only [Act.put, List.setIfInBounds_toArray, List.set_cons_zero, List.set_cons_succ])
        refine wpAny_ready (rs := [0]) (by kernel_rfl) (by simp) ?_
        refine AllReady.cons rfl (fun K hK => ?_) ?_
        · go_simp
          (try (refine hK _ _ ?_; clear hK K))
          (try simp only [Act.put, List.setIfInBounds_toArray, List.set_cons_zero, List.set_cons_succ])
          refine wpAny_ready (rs := [2]) (by kernel_rfl) (by simp) ?_
          refine AllReady.cons rfl (fun K hK => ?_) ?_
          · go_simp
            (try (refine hK _ _ ?_; clear hK K))
            (try simp only [Act.put, List.setIfInBounds_toArray, List.set_cons_zero, List.set_cons_succ])
            refine wpAny_done (by kernel_rfl) ?_ _
            (try simp only [Act.put, List.setIfInBounds_toArray, List.set_cons_zero, List.set_cons_succ])
            go_wp2_with fail
            (try rw [Exit.noGoto_ret])
            have hF := WS.put (w := World.drew wz) hWr3.out p q
            have hg := hg7'.out
            refine bodyPost_ret (v := .tuple #[.slice none 0 0, .agg #[.int .i64 p, .int .i64 q]]) ?_ rfl ⟨(hCw3.out.drew.setCell (.inr (show w.heap.size ≤ g7 by omega)) _).setCell (.inr (show w.heap.size ≤ g7 by omega)) _, .inr ⟨p, q, hE.out, hq0'.out, rfl⟩⟩
            exact results_tmp_cell rfl _ _ _ 55 _ (0, 0) _ rfl _ rfl hF Try.underlying55 rfl (by kernel_rfl)
          exact AllReady.nil
        exact AllReady.nil
    · obtain rfl : i = n5 := by omega
      by_cases hq0 : q = 0
      · have hR3 : p = 0 ∧ R = .ok acc := by
          rcases hst2.out with ⟨-, h1, h2⟩ | ⟨h1, -⟩
          · rw [List.drop_of_length_le (by have := hn5.out; omega)] at h2
            exact ⟨h1, by rw [← h2]; rfl⟩
          · exact absurd hq0 h1
        obtain ⟨rfl, hE⟩ := hR3
        replace hE := Lib.hid hE
        subst hq0
        obtain ⟨s0, s1⟩ := hWr.out.c0
        have f0 := hWr.out.f0 0
        have f1 := hWr.out.f0 1
        clear hst2 herr
        go_wp2_with fail
        (try rw [Exit.noGoto_ret])
        have hF := WS.put hWr.out 0 0
        have hg := hg7'.out
        have h3 := (((Chg.refl [g7] wr).setCell (p := ⟨g7, 0, none⟩) (.inl (by simp)) (.int .i64 0)).setCell (p := ⟨g7, 1, none⟩) (.inl (by simp)) (.int .i64 0))
        have h9 := hg9l.out
        have h9u := hg9u.out
        have hO2 := own_chg hO.out h3 (fun q hq hm => by have := (hO.out.lt q hq).1; simp at hm; omega)
        refine bodyPost_ret (v := .tuple #[.slice A6 (List.length acc) c6, .agg #[.int .i64 0, .int .i64 0]]) ?_ rfl ⟨(hCw.out.setCell (.inr (show w.heap.size ≤ g7 by omega)) _).setCell (.inr (show w.heap.size ≤ g7 by omega)) _, .inl ⟨acc, A6, c6, hE.out, rfl, xs, own_sl hO2, fun q _ hq => ⟨by have := (hO2.lt q hq).1; omega, (hO2.lt q hq).2⟩, ?_⟩⟩
        · exact results_tmp_cell rfl _ _ _ 55 _ (0, 0) _ rfl _ rfl hF Try.underlying55 rfl (by kernel_rfl)
        · exact opsC.imp (fun q hq _ => by have := hq.1; omega) _ _ (opsC.chg h3 (fun q hq _ hm => by have := hq.1; simp at hm; omega) _ _ hOp.out)
      · have hE := Lib.hid (herr.out hq0)
        have hne : ((q : Int) != 0) = true := by simp; omega
        have hq0' := Lib.hid hq0
        clear hq0
        obtain ⟨s0, s1⟩ := hWr.out.c0
        have f0 := hWr.out.f0 0
        have f1 := hWr.out.f0 1
        clear hst2 hO hOp herr
        go_upto_region 13 with fail
        refine wp_region_any (by kernel_rfl) ?_
        (try (change wpAny _ _ _ _ _ _ _ (World.drew _)))
        refine wpAny_take (i := 1) (v := ?_) rfl (by kernel_rfl) (by kernel_rfl) (by kernel_rfl) (fun _ _ _ h => h) (Or.inl ⟨by kernel_rfl, ?_⟩) ?_
        rotate_left
        · (intro w; go_simp; try with_reducible rfl)
        change wpAny _ _ _ _ _ _ (Act.put _ (some 6) _) _
        (try simp only [Act.put, List.setIfInBounds_toArray, List.set_cons_zero, List.set_cons_succ])
        refine wpAny_ready (rs := [0]) (by kernel_rfl) (by simp) ?_
        refine AllReady.cons rfl (fun K hK => ?_) ?_
        · go_simp
          (try (refine hK _ _ ?_; clear hK K))
          (try simp only [Act.put, List.setIfInBounds_toArray, List.set_cons_zero, List.set_cons_succ])
          refine wpAny_ready (rs := [2]) (by kernel_rfl) (by simp) ?_
          refine AllReady.cons rfl (fun K hK => ?_) ?_
          · go_simp
            (try (refine hK _ _ ?_; clear hK K))
            (try simp only [Act.put, List.setIfInBounds_toArray, List.set_cons_zero, List.set_cons_succ])
            refine wpAny_done (by kernel_rfl) ?_ _
            (try simp only [Act.put, List.setIfInBounds_toArray, List.set_cons_zero, List.set_cons_succ])
            go_wp2_with fail
            (try rw [Exit.noGoto_ret])
            have hF := WS.put (w := World.drew wr) hWr.out p q
            have hg := hg7'.out
            refine bodyPost_ret (v := .tuple #[.slice none 0 0, .agg #[.int .i64 p, .int .i64 q]]) ?_ rfl ⟨(hCw.out.drew.setCell (.inr (show w.heap.size ≤ g7 by omega)) _).setCell (.inr (show w.heap.size ≤ g7 by omega)) _, .inr ⟨p, q, hE.out, hq0'.out, rfl⟩⟩
            exact results_tmp_cell rfl _ _ _ 55 _ (0, 0) _ rfl _ rfl hF Try.underlying55 rfl (by kernel_rfl)
          exact AllReady.nil
        exact AllReady.nil
end Pl
end Go.Proofs.Ytakcolililbkjaa
