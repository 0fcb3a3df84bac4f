/- PlScript, PlPlan, PlCount, PlAlive, LPlBodies: texts of mine, joined. Conditions: as they state. -/
import Derived.Test.YtnjjbiialpmhbaaPlCo
import Derived.Test.YtnjjbiialpmhbaaPlA
import Derived.Test.YtnjjbiialpmhbaaRefB
import Derived.Test.YtnjjbiialpmhbaaTclU8
import Derived.Deep.LoopGhost
import Derived.Deep.CutBlock
import Derived.IntWalk
import Derived.Deep.DeepCutAuto
set_option linter.unusedVariables false
set_option linter.unusedSimpArgs false
namespace Go.Proofs.Ytnjjbiialpmhbaa
namespace Pl
open Go.RowKit Tcl Plan
theorem Try.info_op : (Try.prog.info? 41).map (fun i => (i.zero, i.size, i.bytes)) = some (some (.agg #[.int .i64 0, .int .i64 0, .slice none 0 0, .slice none 0 0]), 4, 64) := by kernel_rfl
theorem OS.c0 {w : World} {g : Nat} {k a : Int} {s b : Value} (h : OS w g k a s b) : w.cell? ⟨g, 0, none⟩ = some (.int .i64 k) ∧ w.cell? ⟨g, 1, none⟩ = some (.int .i64 a) ∧ w.cell? ⟨g, 2, none⟩ = some s ∧ w.cell? ⟨g, 3, none⟩ = some b := by
  unfold OS at h; simp [World.cell?, h]
/-- A command of a parsed text. -/
theorem cmd_wd {t : List UInt8} {b : Nat} {cs : List Cmd} {M : Nat} (h : parseAt t b = .ok cs) (hb : b + t.length ≤ M) : cs.length ≤ t.length ∧ ∀ c ∈ cs, c.words ≠ [] ∧ c.at_ ≤ M ∧ Wd t.length M c.words := by
  unfold parseAt at h
  split at h
  · cases h
  · rename_i l hp
    cases h
    have hr := parse_row hp
    refine ⟨by rw [List.length_map]; exact hr.2.2.2, fun c hc => ?_⟩
    obtain ⟨c0, k4, rfl⟩ := List.mem_map.1 hc
    obtain ⟨h1, ⟨w0, r, h2, -⟩, h3⟩ := hr.1 c0 k4
    refine ⟨by simp [shiftC, h2], by simp only [shiftC]; omega, fun w hw => ?_⟩
    obtain ⟨w1, k5, rfl⟩ := List.mem_map.1 hw
    have hin := h3 w1 k5
    have i1 := hin.1
    refine ⟨by simp only [shiftW]; omega, fun hk2 => ?_⟩
    have i2 := hin.2 hk2
    rw [openT_sh]
    simp only [shiftW]
    omega
/-- The operations of parsed commands. -/
def scrA (rec : List UInt8 → Nat → Except Bad (List Plan.Op)) (body : Bool) : Except Bad (List Cmd) → Except Bad (List Plan.Op)
  | .error e => .error e
  | .ok cs => cmdsGo rec body cs []
set_option maxRecDepth 100000 in
set_option maxHeartbeats 16000000 in
theorem script_step (rec : List UInt8 → Nat → Except Bad (List Plan.Op)) (t : List UInt8) (b : Nat) (body : Bool) (M : Nat) (hrec : RecOk rec t.length M) (ht : t.length ≤ 16777216) (hb : b + t.length ≤ M) (hM : M ≤ 1099511627776) (w : World) :
    Calls Try.prog 17 #[.string (bstr t), .int .i64 b, .bool body] w (ScEnd w (scrA rec body (parseAt t b))) := by
  unfold ScEnd
  have hp := Lib.hid (pparse_any (w.alloc (.cells #[.int .i64 0, .int .i64 0] 58)) t b ht (by omega))
  have hsm := Lib.hid (fun e w' (h : PpEnd (w.alloc (.cells #[.int .i64 0, .int .i64 0] 58)) t b e w') => h.some)
  have hWS := Lib.hid (show WS (w.alloc (.cells #[.int .i64 0, .int .i64 0] 58)) w.heap.size 0 0 from blk_new _ _)
  have hC := Lib.hid ((Chg.refl [] w).alloc (.cells #[.int .i64 0, .int .i64 0] 58))
  have hsz : Hid (w.heap.size + 1 = (w.alloc (.cells #[.int .i64 0, .int .i64 0] 58)).heap.size) := Lib.hid (Array.size_push ..).symm
  obtain ⟨r, hr⟩ : ∃ r, parseAt t b = r := ⟨_, rfl⟩
  have hcw : ∀ cs, r = .ok cs → cs.length ≤ 16777216 ∧ ∀ c ∈ cs, c.words ≠ [] ∧ c.at_ ≤ M ∧ Wd t.length M c.words := fun cs h => by
    have h2 := cmd_wd (hr.trans h) hb
    exact ⟨by omega, h2.2⟩
  rw [hr] at hsm ⊢
  obtain ⟨R, hR⟩ : ∃ R, scrA rec body r = R := ⟨_, rfl⟩
  rw [hR]
  obtain ⟨Z, hZ⟩ : ∃ Z, bstr t = Z := ⟨_, rfl⟩
  rw [hZ] at hp ⊢
  clear hZ hr
  replace hR := Lib.hid hR
  replace hcw := Lib.hid hcw
  replace hrec := Lib.hid hrec
  obtain ⟨g7, hg7⟩ : ∃ g7, w.heap.size = g7 := ⟨_, rfl⟩
  rw [hg7] at hWS
  have hg7' := Lib.hid hg7
  go_enter Try.func17, Try.ntmps17
  go_wp2_with fail
  (try rw [hg7])
  generalize w.alloc _ = w1 at hp hsm hWS hC hsz ⊢
  refine (hp.out).mono ?_
  rintro e w2 h2
  obtain ⟨hC2, V, pp, qq, rfl, hSc⟩ := hsm.out _ _ h2
  clear hp hsm h2 hg7
  have hc9 := (Chg.refl [] w2).alloc (.cells #[.int .i64 pp, .int .i64 qq] 58)
  have hX := Lib.hid (show WS (w2.alloc (.cells #[.int .i64 pp, .int .i64 qq] 58)) w2.heap.size pp qq from blk_new _ _)
  have hSc2 := Lib.hid (hSc w1.heap.size w2.heap.size [] _ (Nat.le_refl _) hc9 (by simp) (.inr (Nat.le_refl _)))
  replace hWS := Lib.hid ((hWS.out.chg hC2 (by simp)).chg hc9 (by simp))
  replace hC := Lib.hid ((hC.out.trans hC2).trans hc9)
  obtain ⟨g9, hg9⟩ : ∃ g9, w2.heap.size = g9 := ⟨_, rfl⟩
  rw [hg9] at hX hSc2
  have hg9l : Hid (w.heap.size + 1 ≤ g9) := Lib.hid (by have h1 := hsz.out; have h2 := hC2.size; omega)
  have hg9u : Hid (g9 < (w2.alloc (.cells #[.int .i64 pp, .int .i64 qq] 58)).heap.size) := Lib.hid (by rw [← hg9, show ∀ (x : World) y, (x.alloc y).heap.size = x.heap.size + 1 from fun _ _ => Array.size_push ..]; omega)
  clear hSc hC2 hc9
  have hun : ∃ (cs : List Cmd) (A5 : Option Addr) (c5 : Nat), V = .slice A5 (List.length cs) c5 ∧ CmV (w2.alloc (.cells #[.int .i64 pp, .int .i64 qq] 58)) (fun x => w1.heap.size ≤ x ∧ x ≠ g9) (.slice A5 (List.length cs) c5) cs ∧
      ((qq = 0 ∧ pp = 0 ∧ cmdsGo rec body cs [] = R) ∨ (qq ≠ 0 ∧ R = .error (pp, qq))) ∧ (cs.length ≤ 16777216 ∧ ∀ c ∈ cs, c.words ≠ [] ∧ c.at_ ≤ M ∧ Wd t.length M c.words) := by
    rcases hSc2.out with ⟨l, A, c, h1, rfl, rfl, rfl, h2⟩ | ⟨h1, h2, rfl⟩
    · exact ⟨l, A, c, rfl, h2, .inl ⟨rfl, rfl, by have := hR.out; rw [h1] at this; exact this⟩, hcw.out l h1⟩
    · exact ⟨[], none, 0, rfl, ⟨[], Sl.nil _ _, fun q h0 => absurd h0 (by simp), rfl⟩, .inr ⟨h2, by have := hR.out; rw [h1] at this; exact this.symm⟩, by simp⟩
  obtain ⟨cs, A5, c5, rfl, hCm, hst, hcb⟩ := hun
  obtain ⟨n5, hn5⟩ : ∃ n5, List.length cs = n5 := ⟨_, rfl⟩
  rw [hn5] at hCm ⊢
  replace hCm := Lib.hid hCm
  replace hst := Lib.hid hst
  replace hcb := Lib.hid hcb
  replace hn5 := Lib.hid hn5
  clear hSc2 hR hcw
  go_upto_region 3 with fail
  (try rw [hg9])
  generalize hwx : w2.alloc _ = wx at hX hCm hWS hC hg9u ⊢
  clear hwx hg9
  have hw9 : Hid (w.heap.size + 1 ≤ w1.heap.size) := Lib.hid (by have h1 := hsz.out; omega)
  have hgw : ∀ i cm, cs[i]? = some cm → ∃ b5 o5 A6 c6 ys, A5 = some ⟨b5, o5, none⟩ ∧ b5 ≠ g9 ∧ wx.cell? ⟨b5, o5 + i * 2, none⟩ = some (.int .i64 cm.at_) ∧ wx.cell? ⟨b5, o5 + i * 2 + 1, none⟩ = some (.slice A6 cm.words.length c6) ∧ Sl wx 3 (.slice A6 cm.words.length c6) cm.words.length ys ∧ Blk wx (fun q => w.heap.size + 1 ≤ q ∧ q ≠ g9 ∧ q < wx.heap.size) (.slice A6 cm.words.length c6) cm.words.length ∧ wordsC wx (fun q => w.heap.size + 1 ≤ q ∧ q ≠ g9 ∧ q < wx.heap.size) ys cm.words := fun i cm hcm => by
    obtain ⟨xs, hS, hBk, hcs⟩ := hCm.out
    have hil := (List.getElem?_eq_some_iff.1 hcm).1
    have hxl := hcs.len
    rw [hn5.out] at hS
    obtain ⟨b5, o5, rfl, h2⟩ := sl_row hS (by omega)
    obtain ⟨A6, c6, ys, e1, e2, h3, h4, h5⟩ := cmdsC.get hcs hcm
    have h9 := hw9.out
    refine ⟨b5, o5, A6, c6, ys, rfl, (hBk b5 (by omega) rfl).1.2, h2 _ _ e1, ?_, h3, h4.imp (fun q hq hl => ⟨by have := hq.1; omega, hq.2, hl⟩), wordsC.imp (fun q hq hl => ⟨by have := hq.1; omega, hq.2, hl⟩) h5⟩
    rw [Nat.add_assoc]; exact h2 _ _ e2
  replace hgw := Lib.hid hgw
  clear hCm
  go_wp2_with fail
  go_loopg [10, 22] n5 (fun gk v10 v22 wr => ∃ (i : Nat) (A6 : Option Addr) (c6 : Nat) (acc : List Plan.Op) (xs : List Value) (p q : Nat), v10 = .slice A6 (List.length acc) c6 ∧ v22 = .int .i64 i ∧ i ≤ n5 ∧ gk = n5 - i ∧ List.length acc ≤ i ∧ Hid (WS wr g9 p q) ∧
    Hid ((q = 0 ∧ p = 0 ∧ cmdsGo rec body (cs.drop i) acc = R) ∨ (q ≠ 0 ∧ R = .error (p, q))) ∧ Hid (wr.ownsRow wx.heap.size 41 4 (.slice A6 (List.length acc) c6) (List.length acc) xs) ∧ Hid (opsC wr (fun x => w.heap.size + 1 ≤ x ∧ x ≠ g9 ∧ (Value.slice A6 (List.length acc) c6).ownBlock ≠ some x) xs acc) ∧ Hid (Chg [g9] wx wr))
  case atStart => exact ⟨0, none, 0, [], [], pp, qq, rfl, rfl, by omega, rfl, by simp, hX, by rw [List.drop_zero]; exact hst, Lib.hid (World.ownsRow_nil _ _ _ _), Lib.hid (by rw [opsC]), Lib.hid (Chg.refl _ _)⟩
  case round =>
    obtain ⟨i, A6, c6, acc, xs, p, q, rfl, rfl, hi, rfl, hai, hX2, hst2, hO, hOp, hCr⟩ := hrel
    clear hX hst
    have hnb : n5 ≤ 16777216 := by have h1 := hcb.out.1; have h2 := hn5.out; omega
    obtain ⟨x0, x1⟩ := hX2.out.c0
    have hWr := Lib.hid (hWS.out.chg hCr.out (by have := hg9l.out; have := hg7'.out; simp; omega))
    have hCw := Lib.hid (hC.out.then hCr.out (by intro x hx; simp at hx; subst hx; right; have := hg9l.out; omega))
    have herr : Hid (q ≠ 0 → R = .error (p, q)) := Lib.hid (fun h => by rcases hst2.out with ⟨h1, -⟩ | ⟨-, h2⟩; exact absurd h1 h; exact h2)
    by_cases hlt : i < n5
    · obtain ⟨cm, hcm⟩ : ∃ cm, cs[i]? = some cm := ⟨_, List.getElem?_eq_getElem (by have := hn5.out; omega)⟩
      obtain ⟨b5, o5, A7, c7, ys7, rfl, hb59, u0, u1, hS7, hBk7, hw7⟩ := hgw.out i cm hcm
      obtain ⟨hcn, hca, hcwd⟩ := hcb.out.2 cm (List.mem_of_getElem? hcm)
      replace u0 := hCr.out.cell u0 (by simpa using hb59)
      replace u1 := hCr.out.cell u1 (by simpa using hb59)
      obtain ⟨m7, hm7⟩ : ∃ m7, List.length cm.words = m7 := ⟨_, rfl⟩
      have hWV : WsV wr (fun q => w.heap.size + 1 ≤ q ∧ q ≠ g9 ∧ q < wx.heap.size) A7 m7 c7 cm.words :=
        WsV.chg ⟨hm7.symm, ys7, by rw [← hm7]; exact hS7, by rw [← hm7]; exact hBk7, hw7⟩ hCr.out (fun q hq _ hm => by simp at hm; exact hq.2.1 hm)
      rw [hm7] at u1
      replace hm7 := Lib.hid hm7
      replace hWV := Lib.hid hWV
      replace hcn := Lib.hid hcn
      replace hcwd := Lib.hid hcwd
      replace hb59 := Lib.hid hb59
      have hc3 := (Chg.refl [] wr).alloc (.cells #[.int .i64 cm.at_, .slice A7 m7 c7] 32)
      clear hS7 hBk7 hw7
      by_cases hq0 : q = 0
      · have hR3 : p = 0 ∧ (match cmdOp rec body cm with | .error b => Except.error b | .ok o => cmdsGo rec body (cs.drop (i + 1)) (acc ++ [o])) = R := by
          rcases hst2.out with ⟨-, h1, h2⟩ | ⟨h1, -⟩
          · rw [drop_get hcm, cmdsGo] at h2
            exact ⟨h1, h2⟩
          · exact absurd hq0 h1
        obtain ⟨rfl, hR3⟩ := hR3
        replace hR3 := Lib.hid hR3
        subst hq0
        obtain ⟨wd, hwd⟩ : ∃ wd, (wr.alloc (.cells #[.int .i64 cm.at_, .slice A7 m7 c7] 32)).alloc (.cells #[.int .i64 0, .int .i64 0, .slice none 0 0, .slice none 0 0] 41) = wd := ⟨_, rfl⟩
        have hsz1 : (wr.alloc (.cells #[.int .i64 cm.at_, .slice A7 m7 c7] 32)).heap.size = wr.heap.size + 1 := Array.size_push ..
        have hszd : wd.heap.size = wr.heap.size + 2 := by rw [← hwd, show ∀ (x : World) y, (x.alloc y).heap.size = x.heap.size + 1 from fun _ _ => Array.size_push .., hsz1]
        have hcd : Chg [] wr wd := by rw [← hwd]; exact hc3.alloc _
        have hK : CS wd wr.heap.size (.int .i64 cm.at_) (.slice A7 m7 c7) := by rw [← hwd]; exact blk_alloc (blk_new _ _) _
        have hOS : OS wd (wr.heap.size + 1) 0 0 (.slice none 0 0) (.slice none 0 0) := by rw [← hwd, ← hsz1]; exact blk_new _ _
        obtain ⟨k0, k1⟩ := hK.c0
        have hxr := hCr.out.size
        have h9l := hg9l.out
        have h9u := hg9u.out
        have hco := pcommand_any rec t.length M hrec.out (by omega) hM wd (fun q => (w.heap.size + 1 ≤ q ∧ q ≠ g9 ∧ q < wx.heap.size) ∨ wd.heap.size ≤ q) cm A7 m7 c7 body ((hWV.out.chg hcd (fun _ _ _ => by simp)).imp (fun q hq _ => .inl hq)) hcwd.out hcn.out hca (fun q hq => .inr hq)
        have hX4 := hX2.out.chg hcd (by simp)
        have e9 := hX4.c0.2
        have e9a : (wr.alloc (.cells #[.int .i64 cm.at_, .slice A7 m7 c7] 32)).cell? ⟨g9, 1, none⟩ = some (.int .i64 0) := (hX2.out.chg hc3 (by simp)).c0.2
        replace hco := Lib.hid hco
        replace hX4 := Lib.hid hX4
        replace hOS := Lib.hid hOS
        replace hcd := Lib.hid hcd
        replace hszd := Lib.hid hszd
        obtain ⟨hxr', h9l', h9u'⟩ : Hid (wx.heap.size ≤ wr.heap.size) ∧ Hid (w.heap.size + 1 ≤ g9) ∧ Hid (g9 < wx.heap.size) := ⟨Lib.hid hxr, Lib.hid h9l, Lib.hid h9u⟩
        clear hsz1 hK hc3 hst2 herr hxr h9l h9u
        go_wp2_with fail
        clear hwd k0 k1 e9 e9a u0 u1 x0 x1
        refine (hco.out).mono ?_
        rintro e w8 h8
        obtain ⟨hC8, hcase⟩ := h8
        obtain ⟨g13, hg13⟩ : ∃ g13, wr.heap.size + 1 = g13 := ⟨_, rfl⟩
        rw [hg13] at hOS ⊢
        have hne : ¬ g13 = g9 := by have := hxr'.out; have := h9u'.out; omega
        replace hOS := Lib.hid (hOS.out.chg hC8 (by simp))
        replace hX4 := Lib.hid (hX4.out.chg hC8 (by simp))
        have hg13' := Lib.hid hg13
        have hne' := Lib.hid hne
        have hall : Hid (∀ W9, Chg [g13, g9] w8 W9 → Chg [g9] wr W9 ∧ W9.heap.size ≥ w8.heap.size) := Lib.hid (fun W9 h => ⟨((Chg.mono hcd.out (S1 := [g9]) (by simp)).trans (Chg.mono hC8 (by simp))).then h (by intro x hx; simp at hx; rcases hx with rfl | rfl; exact .inr (by have := hg13'.out; omega); exact .inl (by simp)), h.size⟩)
        replace hC8 := Lib.hid hC8
        clear hco hg13 hne
        rcases hcase with ⟨o, v0, v1, v2, v3, ho, rfl, hop⟩ | ⟨p5, q5, ho, hq5, rfl⟩
        · obtain ⟨k, a, s1, s2, rfl, rfl, rfl, rfl, o1, o2⟩ : ∃ (k a : Int) (s1 s2 : Value), v0 = .int .i64 k ∧ v1 = .int .i64 a ∧ v2 = s1 ∧ v3 = s2 ∧ s1.oneCell' = true ∧ s2.oneCell' = true := by
            cases o
            rw [opC] at hop
            obtain ⟨_, _, _, _, _, _, h, -⟩ := hop
            simp only [List.cons.injEq] at h
            obtain ⟨rfl, rfl, rfl, rfl, -⟩ := h
            exact ⟨_, _, _, _, rfl, rfl, rfl, rfl, rfl, rfl⟩
          have hP := co_put hOS.out hX4.out hne'.out k a v2 v3 0 0
          have hT := WS.chg (w := w8) hX4.out (Chg_setRow (Chg.refl [g13] w8) (g := g13) (.inl (by simp)) #[.int .i64 k, .int .i64 a, v2, v3]) (by have := hne'.out; simp; omega)
          obtain ⟨t0, t1⟩ := WS.c0 hT
          have tf0 := WS.f0 hT 0
          have tf1 := WS.f0 hT 1
          have hR4 := Lib.hid (show cmdsGo rec body (cs.drop (i + 1)) (acc ++ [o]) = R by have := hR3.out; rw [ho] at this; exact this)
          replace hP := Lib.hid hP
          replace hT := Lib.hid hT
          replace hop := Lib.hid hop
          clear hR3 ho
          go_upto_region 9 with (refine wpList_store_op rfl (.tmp 13) (.tmp 33) rfl g13 k a v2 v3 o1 o2 rfl rfl hOS.out ?_)
          clear t0 t1 tf0 tf1
          generalize hw9 : World.setCell _ _ _ = W9 at hP ⊢
          clear hw9
          obtain ⟨hQ9, hX9, hCh9⟩ := hP.out
          obtain ⟨hA9, hA9s⟩ := hall.out W9 hCh9
          have z1 := hX9.c0.2
          obtain ⟨y0, y1, y2, y3⟩ := hQ9.c0
          have hO9 := Lib.hid (own_chg hO.out hA9 (fun q hq hm => by have := (hO.out.lt q hq).1; have := h9u'.out; simp at hm; omega))
          have hOp9 := opsC.chg hA9 (fun q hq _ hm => by simp at hm; exact hq.2.1 hm) _ _ hOp.out
          have hCr9 := Lib.hid (hCr.out.trans hA9)
          have hop9 : opC W9 (fun x => w.heap.size + 1 ≤ x ∧ x ≠ g9 ∧ (Value.slice A6 (List.length acc) c6).ownBlock ≠ some x) [.int .i64 k, .int .i64 a, v2, v3] o := by
            have d1 := hxr'.out
            have d2 := hszd.out
            have d3 := hg13'.out
            have d4 := h9u'.out
            have d5 := h9l'.out
            refine opC.imp (fun q hq _ => ?_) _ _ (opC.chg hCh9 (fun q hq _ hm => ?_) _ _ hop.out)
            · rcases hq with ⟨j1, j2, j3⟩ | j1
              · exact ⟨j1, j2, fun e => by have := (hO.out.lt q e).1; omega⟩
              · exact ⟨by omega, by omega, fun e => by have := (hO.out.lt q e).2; omega⟩
            · simp at hm
              rcases hq with ⟨j1, j2, j3⟩ | j1
              · rcases hm with rfl | rfl
                · omega
                · exact j2 rfl
              · rcases hm with rfl | rfl <;> omega
          have hsn := Lib.hid (opsC.snoc hop9 hOp9)
          have hone := Lib.hid (show ∀ u ∈ [Value.int .i64 k, .int .i64 a, v2, v3], u.oneCell' = true from by intro u hu; simp at hu; rcases hu with rfl | rfl | rfl | rfl <;> first | rfl | exact o1 | exact o2)
          have hbase : wx.heap.size ≤ W9.heap.size := hCr9.out.size
          replace hX9 := Lib.hid hX9
          clear hP hQ9 hCh9 hA9 hO hOp hCr hOS hX4 hT hop hop9 hOp9
          go_wp2_with (at_builtin; refine wpList_append_sl rfl (.tmp 38) (.tmp 40) 22 rfl wx.heap.size 41 (.agg #[.int .i64 0, .int .i64 0, .slice none 0 0, .slice none 0 0]) 4 64 Try.underlying22 Try.info_op rfl (by decide) _ (List.length acc) xs rfl (hO9.out.alloc _) _ 1 [.int .i64 k, .int .i64 a, v2, v3] rfl (sl_wide_new W9 _ 41 4 rfl) hone.out (List.length acc + 1) rfl (by omega) (by decide) (by simp; omega) ?_)
          intro A' c' w5 hO' hCh hat
          have hlen : List.length (acc ++ [o]) = List.length acc + 1 := by simp
          have hCh2 : Chg (Value.slice A6 (List.length acc) c6).ownBlock.toList W9 w5 := ((Chg.refl _ W9).alloc _).trans hCh
          have hnew : ∀ q, q < W9.heap.size → (Value.slice A6 (List.length acc) c6).ownBlock ≠ some q → (Value.slice A' (List.length acc + 1) c').ownBlock ≠ some q := fun q hq hn e => by
            rcases hat with h | h
            · exact hn (h ▸ e)
            · have := h q e; (try simp at this); omega
          have hs1 := opsC.imp (B' := fun q => (w.heap.size + 1 ≤ q ∧ q ≠ g9 ∧ (Value.slice A6 (List.length acc) c6).ownBlock ≠ some q) ∧ q < W9.heap.size) (fun q hq hl => ⟨hq, hl⟩) _ _ hsn.out
          have hs2 := opsC.chg hCh2 (fun q hq _ hm => by simp at hm; exact hq.1.2.2 hm) _ _ hs1
          have hopN := Lib.hid (opsC.imp (B' := fun x => w.heap.size + 1 ≤ x ∧ x ≠ g9 ∧ (Value.slice A' (List.length acc + 1) c').ownBlock ≠ some x) (fun q hq _ => ⟨hq.1.1, hq.1.2.1, hnew q hq.2 hq.1.2.2⟩) _ _ hs2)
          clear hs1 hs2
          have hXN := Lib.hid (hX9.out.chg hCh2 (fun hm => by have := (hO9.out.lt g9 (by simpa using hm)).1; have := h9u'.out; omega))
          have hCN := Lib.hid (hCr9.out.then hCh2 (fun q hq => .inr (hO9.out.lt q (by simpa using hq)).1))
          replace hO' := Lib.hid hO'
          clear hCh hat hCh2 hnew hsn hO9 hX9 hCr9 y0 y1 y2 y3 z1
          go_wp2_with fail
          go_roundg (n5 - (i + 1))
          case measure => omega
          case rel => exact ⟨i + 1, A', c', acc ++ [o], xs ++ [.int .i64 k, .int .i64 a, v2, v3], 0, 0, by rw [hlen], rfl, by omega, rfl, by rw [hlen]; omega, hXN, Lib.hid (.inl ⟨rfl, rfl, hR4.out⟩), by rw [hlen]; exact hO', by rw [hlen]; exact hopN, hCN⟩
        · have hP := co_put hOS.out hX4.out hne'.out 0 0 (.slice none 0 0) (.slice none 0 0) (p5 : Int) (q5 : Int)
          have hT := WS.chg (w := w8) hX4.out (Chg_setRow (Chg.refl [g13] w8) (g := g13) (.inl (by simp)) #[.int .i64 0, .int .i64 0, .slice none 0 0, .slice none 0 0]) (by have := hne'.out; simp; omega)
          obtain ⟨t0, t1⟩ := WS.c0 hT
          have tf0 := WS.f0 hT 0
          have tf1 := WS.f0 hT 1
          have hE := Lib.hid (show R = .error (p5, q5) by have := hR3.out; rw [ho] at this; exact this.symm)
          have hqz : ((q5 : Int) == 0) = false := by rw [beq_eq_false_iff_ne]; omega
          replace hq5 := Lib.hid hq5
          replace hP := Lib.hid hP
          replace hT := Lib.hid hT
          clear hR3 ho
          go_upto_region 9 with (refine wpList_store_op rfl (.tmp 13) (.tmp 33) rfl g13 0 0 (.slice none 0 0) (.slice none 0 0) rfl rfl rfl rfl hOS.out ?_)
          clear t0 t1 tf0 tf1
          generalize hw9 : World.setCell _ _ _ = W9 at hP ⊢
          clear hw9
          obtain ⟨hQ9, hX9, hCh9⟩ := hP.out
          obtain ⟨hA9, hA9s⟩ := hall.out W9 hCh9
          have z1 := hX9.c0.2
          have hO9 := Lib.hid (own_chg hO.out hA9 (fun q hq hm => by have := (hO.out.lt q hq).1; have := h9u'.out; simp at hm; omega))
          have hOp9 := Lib.hid (opsC.chg hA9 (fun q hq _ hm => by simp at hm; exact hq.2.1 hm) _ _ hOp.out)
          have hCr9 := Lib.hid (hCr.out.trans hA9)
          replace hX9 := Lib.hid hX9
          clear hP hQ9 hCh9 hA9 hO hOp hCr hOS hX4 hT
          go_wp2_with fail
          go_roundg (n5 - (i + 1))
          case measure => omega
          case rel => exact ⟨i + 1, A6, c6, acc, xs, p5, q5, rfl, rfl, by omega, rfl, by omega, hX9, Lib.hid (.inr ⟨hq5.out, hE.out⟩), hO9, hOp9, hCr9⟩
      · have hX3 := Lib.hid (hX2.out.chg hc3 (by simp))
        have hWr3 := Lib.hid (hWr.out.chg hc3 (by simp))
        have hCw3 := Lib.hid (hCw.out.trans hc3)
        clear hc3
        have hE := Lib.hid (herr.out hq0)
        have hne : ((q : Int) != 0) = true := by simp; omega
        have hq0' := Lib.hid hq0
        clear hq0
        obtain ⟨s0, s1⟩ := hWr.out.c0
        have f0 := hWr.out.f0 0
        have f1 := hWr.out.f0 1
        clear hst2 hO hOp herr
        obtain ⟨x2, x3⟩ := hX3.out.c0
        go_upto_region 13 with fail
        clear x2 x3
        generalize hwz : wr.alloc _ = wz at hX3 hWr3 hCw3 ⊢
        clear hwz s0 s1 f0 f1 x0 x1
        obtain ⟨x0, x1⟩ := hX3.out.c0
        obtain ⟨s0, s1⟩ := hWr3.out.c0
        have f0 := hWr3.out.f0 0
        have f1 := hWr3.out.f0 1
        refine wp_region_any (by kernel_rfl) ?_
        (try (change wpAny _ _ _ _ _ _ _ (World.drew _)))
        refine wpAny_take (i := 1) (v := ?_) rfl (by kernel_rfl) (by kernel_rfl) (by kernel_rfl) (fun _ _ _ h => h) (Or.inl ⟨by kernel_rfl, ?_⟩) ?_
        rotate_left
        · (intro w; go_simp; try with_reducible rfl)
        change wpAny _ _ _ _ _ _ (Act.put _ (some 6) _) _
        (try simp only [Act.put, List.setIfInBounds_toArray, List.set_cons_zero, List.set_cons_succ])
        refine wpAny_ready (rs := [0]) (by kernel_rfl) (by simp) ?_
        refine AllReady.cons rfl (fun K hK => ?_) ?_
        · go_simp
          (try (refine hK _ _ ?_; clear hK K))
          (try simp only [Act.put, List.setIfInBounds_toArray, List.set_cons_zero, List.set_cons_succ])
          refine wpAny_ready (rs := [2]) (by kernel_rfl) (by simp) ?_
          refine AllReady.cons rfl (fun K hK => ?_) ?_
          · go_simp
            (try (refine hK _ _ ?_; clear hK K))
            (try simp only [Act.put, List.setIfInBounds_toArray, List.set_cons_zero, List.set_cons_succ])
            refine wpAny_done (by kernel_rfl) ?_ _
            (try simp only [Act.put, List.setIfInBounds_toArray, List.set_cons_zero, List.set_cons_succ])
            go_wp2_with fail
            (try rw [Exit.noGoto_ret])
            have hF := WS.put (w := World.drew wz) hWr3.out p q
            have hg := hg7'.out
            refine bodyPost_ret (v := .tuple #[.slice none 0 0, .agg #[.int .i64 p, .int .i64 q]]) ?_ rfl ⟨(hCw3.out.drew.setCell (.inr (show w.heap.size ≤ g7 by omega)) _).setCell (.inr (show w.heap.size ≤ g7 by omega)) _, .inr ⟨p, q, hE.out, hq0'.out, rfl⟩⟩
            exact results_tmp_cell rfl _ _ _ 58 _ (0, 0) _ rfl _ rfl hF Try.underlying58 rfl (by kernel_rfl)
          exact AllReady.nil
        exact AllReady.nil
    · obtain rfl : i = n5 := by omega
      by_cases hq0 : q = 0
      · have hR3 : p = 0 ∧ R = .ok acc := by
          rcases hst2.out with ⟨-, h1, h2⟩ | ⟨h1, -⟩
          · rw [List.drop_of_length_le (by have := hn5.out; omega)] at h2
            exact ⟨h1, by rw [← h2]; rfl⟩
          · exact absurd hq0 h1
        obtain ⟨rfl, hE⟩ := hR3
        replace hE := Lib.hid hE
        subst hq0
        obtain ⟨s0, s1⟩ := hWr.out.c0
        have f0 := hWr.out.f0 0
        have f1 := hWr.out.f0 1
        clear hst2 herr
        go_wp2_with fail
        (try rw [Exit.noGoto_ret])
        have hF := WS.put hWr.out 0 0
        have hg := hg7'.out
        have h3 := (((Chg.refl [g7] wr).setCell (p := ⟨g7, 0, none⟩) (.inl (by simp)) (.int .i64 0)).setCell (p := ⟨g7, 1, none⟩) (.inl (by simp)) (.int .i64 0))
        have h9 := hg9l.out
        have h9u := hg9u.out
        have hO2 := own_chg hO.out h3 (fun q hq hm => by have := (hO.out.lt q hq).1; simp at hm; omega)
        refine bodyPost_ret (v := .tuple #[.slice A6 (List.length acc) c6, .agg #[.int .i64 0, .int .i64 0]]) ?_ rfl ⟨(hCw.out.setCell (.inr (show w.heap.size ≤ g7 by omega)) _).setCell (.inr (show w.heap.size ≤ g7 by omega)) _, .inl ⟨acc, A6, c6, hE.out, rfl, xs, own_sl hO2, fun q _ hq => ⟨by have := (hO2.lt q hq).1; omega, (hO2.lt q hq).2⟩, ?_⟩⟩
        · exact results_tmp_cell rfl _ _ _ 58 _ (0, 0) _ rfl _ rfl hF Try.underlying58 rfl (by kernel_rfl)
        · exact opsC.imp (fun q hq _ => by have := hq.1; omega) _ _ (opsC.chg h3 (fun q hq _ hm => by have := hq.1; simp at hm; omega) _ _ hOp.out)
      · have hE := Lib.hid (herr.out hq0)
        have hne : ((q : Int) != 0) = true := by simp; omega
        have hq0' := Lib.hid hq0
        clear hq0
        obtain ⟨s0, s1⟩ := hWr.out.c0
        have f0 := hWr.out.f0 0
        have f1 := hWr.out.f0 1
        clear hst2 hO hOp herr
        go_upto_region 13 with fail
        refine wp_region_any (by kernel_rfl) ?_
        (try (change wpAny _ _ _ _ _ _ _ (World.drew _)))
        refine wpAny_take (i := 1) (v := ?_) rfl (by kernel_rfl) (by kernel_rfl) (by kernel_rfl) (fun _ _ _ h => h) (Or.inl ⟨by kernel_rfl, ?_⟩) ?_
        rotate_left
        · (intro w; go_simp; try with_reducible rfl)
        change wpAny _ _ _ _ _ _ (Act.put _ (some 6) _) _
        (try simp only [Act.put, List.setIfInBounds_toArray, List.set_cons_zero, List.set_cons_succ])
        refine wpAny_ready (rs := [0]) (by kernel_rfl) (by simp) ?_
        refine AllReady.cons rfl (fun K hK => ?_) ?_
        · go_simp
          (try (refine hK _ _ ?_; clear hK K))
          (try simp only [Act.put, List.setIfInBounds_toArray, List.set_cons_zero, List.set_cons_succ])
          refine wpAny_ready (rs := [2]) (by kernel_rfl) (by simp) ?_
          refine AllReady.cons rfl (fun K hK => ?_) ?_
          · go_simp
            (try (refine hK _ _ ?_; clear hK K))
            (try simp only [Act.put, List.setIfInBounds_toArray, List.set_cons_zero, List.set_cons_succ])
            refine wpAny_done (by kernel_rfl) ?_ _
            (try simp only [Act.put, List.setIfInBounds_toArray, List.set_cons_zero, List.set_cons_succ])
            go_wp2_with fail
            (try rw [Exit.noGoto_ret])
            have hF := WS.put (w := World.drew wr) hWr.out p q
            have hg := hg7'.out
            refine bodyPost_ret (v := .tuple #[.slice none 0 0, .agg #[.int .i64 p, .int .i64 q]]) ?_ rfl ⟨(hCw.out.drew.setCell (.inr (show w.heap.size ≤ g7 by omega)) _).setCell (.inr (show w.heap.size ≤ g7 by omega)) _, .inr ⟨p, q, hE.out, hq0'.out, rfl⟩⟩
            exact results_tmp_cell rfl _ _ _ 58 _ (0, 0) _ rfl _ rfl hF Try.underlying58 rfl (by kernel_rfl)
          exact AllReady.nil
        exact AllReady.nil
end Pl
end Go.Proofs.Ytnjjbiialpmhbaa
namespace Go.Proofs.Ytnjjbiialpmhbaa
namespace Pl
open Go.RowKit Tcl Plan
theorem script_any (M : Nat) (hM : M ≤ 1099511627776) : ∀ (n : Nat) (t : List UInt8) (b : Nat) (body : Bool) (w : World), t.length < n → t.length ≤ 16777216 → b + t.length ≤ M →
    Calls Try.prog 17 #[.string (bstr t), .int .i64 b, .bool body] w (ScEnd w (Plan.script n t b body)) := by
  intro n
  induction n with
  | zero => intro t b body w h; omega
  | succ n ih =>
    intro t b body w h1 h2 h3
    have h := script_step (fun t b => Plan.script n t b true) t b body M (fun W u b hu hb => ih u b true W (by omega) (by omega) hb) h2 h3 hM w
    have e : scrA (fun t b => Plan.script n t b true) body (parseAt t b) = Plan.script (n + 1) t b body := by
      unfold scrA
      simp only [Plan.script]
      cases parseAt t b <;> rfl
    rw [e] at h
    exact h
/-- What `Parse` tells. -/
def PlEnd (w : World) (s : List UInt8) (e : Ending) (w' : World) : Prop :=
  Chg [] w w' ∧ ((∃ l A c, planOf s = .ok l ∧ e = .returned (.tuple #[.slice A (List.length l) c, .int .i64 0, .int .i64 0]) ∧ OpsV w' (fun q => w.heap.size ≤ q) (.slice A (List.length l) c) l)
    ∨ (∃ p q : Nat, planOf s = .error (p, q) ∧ q ≠ 0 ∧ e = .returned (.tuple #[.slice none 0 0, .int .i64 p, .int .i64 q])))
set_option maxRecDepth 100000 in
set_option maxHeartbeats 8000000 in
theorem plan_any (w : World) (s : List UInt8) (hs : s.length ≤ 16777216) : Calls Try.prog 8 #[.string (bstr s)] w (PlEnd w s) := by
  unfold PlEnd
  have h := script_any 1099511627776 (by decide) (s.length + 1) s 0 false w (by omega) hs (by omega)
  have h' : Calls Try.prog 17 #[.string (bstr s), .int .i64 0, .bool false] w (ScEnd w (planOf s)) := h
  obtain ⟨Z, hZ⟩ : ∃ Z, bstr s = Z := ⟨_, rfl⟩
  rw [hZ] at h' ⊢
  replace h' := Lib.hid h'
  clear h hZ
  go_enter Try.func8, Try.ntmps8
  go_wp2_with fail
  refine (h'.out).mono ?_
  rintro e w1 ⟨hC1, ⟨l, A, c, hr, rfl, hOp⟩ | ⟨p, q, hr, hq, rfl⟩⟩
  · have hc2 := Lib.hid ((Chg.refl [] w1).alloc (.cells #[.int .i64 0, .int .i64 0] 58))
    replace hC1 := Lib.hid hC1
    replace hOp := Lib.hid hOp
    replace hr := Lib.hid hr
    clear h'
    go_wp2_with fail
    go_quiet (fail)
    go_wp2_with fail
    go_ret3
    exact ⟨((hC1.out.trans hc2.out).drewN _), .inl ⟨l, A, c, hr.out, rfl, OpsV.chg hOp.out (hc2.out.drewN _) (fun _ _ _ => by simp)⟩⟩
  · have hc2 := Lib.hid ((Chg.refl [] w1).alloc (.cells #[.int .i64 p, .int .i64 q] 58))
    replace hC1 := Lib.hid hC1
    replace hr := Lib.hid hr
    replace hq := Lib.hid hq
    clear h'
    go_wp2_with fail
    go_quiet (fail)
    go_wp2_with fail
    go_ret3
    exact ⟨((hC1.out.trans hc2.out).drewN _), .inr ⟨p, q, hr.out, hq.out, rfl⟩⟩
end Pl
end Go.Proofs.Ytnjjbiialpmhbaa
namespace Go.Proofs.Ytnjjbiialpmhbaa
namespace Pl
open Go.RowKit Tcl Plan
/-- An operation in a slice. -/
theorem ops_at {w : World} {B : Nat → Prop} {A : Option Addr} {c n : Nat} {l : List Plan.Op} {i : Nat} {o : Plan.Op} (h : OpsV w B (.slice A n c) l) (hn : n = l.length) (hi : l[i]? = some o) :
    ∃ b0 o0 Aw cw Aa ca, A = some ⟨b0, o0, none⟩ ∧ w.cell? ⟨b0, o0 + i * 4, none⟩ = some (.int .i64 o.kind) ∧ w.cell? ⟨b0, o0 + i * 4 + 1, none⟩ = some (.int .i64 o.at_) ∧ w.cell? ⟨b0, o0 + i * 4 + 2, none⟩ = some (.slice Aw o.words.length cw) ∧ w.cell? ⟨b0, o0 + i * 4 + 3, none⟩ = some (.slice Aa o.arms.length ca) ∧
      ∃ zs, Sl w 5 (.slice Aa o.arms.length ca) o.arms.length zs ∧ armsC w B zs o.arms := by
  subst hn
  obtain ⟨xs, h1, -, h3⟩ := h
  have hil := (List.getElem?_eq_some_iff.1 hi).1
  have hl := h1.len
  obtain ⟨b0, o0, rfl, hr⟩ := sl_row h1 (by omega)
  obtain ⟨p, hp, hx⟩ := opsC.get h3 hi
  obtain ⟨k, a, ws, rs⟩ := o
  rw [opC] at hp
  obtain ⟨Aw, cw, Aa, ca, ys, zs, rfl, -, h5, -, h7⟩ := hp
  have x0 := hx 0 (by omega)
  have x1 := hx 1 (by omega)
  have x2 := hx 2 (by omega)
  have x3 := hx 3 (by omega)
  refine ⟨b0, o0, Aw, cw, Aa, ca, rfl, hr _ _ x0, ?_, ?_, ?_, zs, h5, h7⟩
  · have := hr _ _ x1; rw [← Nat.add_assoc] at this; exact this
  · have := hr _ _ x2; rw [← Nat.add_assoc] at this; exact this
  · have := hr _ _ x3; rw [← Nat.add_assoc] at this; exact this
/-- An arm in a slice. -/
theorem arms_at {w : World} {B : Nat → Prop} {A : Option Addr} {c n : Nat} {l : List Arm} {zs : List Value} {i : Nat} {a : Arm} (h : Sl w 5 (.slice A n c) n zs) (h3 : armsC w B zs l) (hn : n = l.length) (hi : l[i]? = some a) :
    ∃ b0 o0 Ap cp Ab cb, A = some ⟨b0, o0, none⟩ ∧ w.cell? ⟨b0, o0 + i * 5, none⟩ = some (.int .i64 a.kind) ∧ w.cell? ⟨b0, o0 + i * 5 + 1, none⟩ = some (.int .i64 a.pat.at_) ∧ w.cell? ⟨b0, o0 + i * 5 + 2, none⟩ = some (.int .i64 a.pat.kind) ∧ w.cell? ⟨b0, o0 + i * 5 + 3, none⟩ = some (.slice Ap a.pat.parts.length cp) ∧ w.cell? ⟨b0, o0 + i * 5 + 4, none⟩ = some (.slice Ab a.body.length cb) ∧
      PartsAt w (.slice Ap a.pat.parts.length cp) a.pat.parts ∧ OpsV w B (.slice Ab a.body.length cb) a.body := by
  subst hn
  have hil := (List.getElem?_eq_some_iff.1 hi).1
  have hl := h.len
  obtain ⟨b0, o0, rfl, hr⟩ := sl_row h (by omega)
  obtain ⟨p, hp, hx⟩ := armsC.get h3 hi
  obtain ⟨k, wd, body⟩ := a
  rw [armC] at hp
  obtain ⟨hp3, Ab, cb, ys, rfl, ⟨Ap, cp, rfl, h4, -⟩, h5⟩ := hp
  have x0 := hx 0 (by omega)
  have x1 := hx 1 (by omega)
  have x2 := hx 2 (by omega)
  have x3 := hx 3 (by omega)
  have x4 := hx 4 (by omega)
  refine ⟨b0, o0, Ap, cp, Ab, cb, rfl, hr _ _ x0, ?_, ?_, ?_, ?_, h4, ys, h5⟩
  · have := hr _ _ x1; rw [← Nat.add_assoc] at this; exact this
  · have := hr _ _ x2; rw [← Nat.add_assoc] at this; exact this
  · have := hr _ _ x3; rw [← Nat.add_assoc] at this; exact this
  · have := hr _ _ x4; rw [← Nat.add_assoc] at this; exact this
theorem cntOs_succ {l : List Plan.Op} {i : Nat} {o : Plan.Op} (h : l[i]? = some o) : cntOs (l.take (i + 1)) = cntOs (l.take i) + 1 + cntAs o.arms := by
  rw [take_get h, cntOs_append]
  cases o
  rw [cntOs, cntOs, cntO]
  simp only [Op.arms]; omega
theorem cntAs_append (b : List Arm) : ∀ a, cntAs (a ++ b) = cntAs a + cntAs b
  | [] => by rw [cntAs]; simp
  | o :: r => by rw [List.cons_append, cntAs, cntAs, cntAs_append b r]; omega
theorem cntAs_succ {l : List Arm} {i : Nat} {a : Arm} (h : l[i]? = some a) : cntAs (l.take (i + 1)) = cntAs (l.take i) + cntOs a.body := by
  rw [take_get h, cntAs_append]
  cases a
  rw [cntAs, cntAs, cntA]
  simp only [Arm.body]; omega
theorem cntAs_le {l : List Arm} (i : Nat) : cntAs (l.take i) ≤ cntAs l := by
  have : cntAs l = cntAs (l.take i) + cntAs (l.drop i) := by rw [← cntAs_append, List.take_append_drop]
  omega
theorem cntOs_le {l : List Plan.Op} (i : Nat) : cntOs (l.take i) ≤ cntOs l := by
  have : cntOs l = cntOs (l.take i) + cntOs (l.drop i) := by rw [← cntOs_append, List.take_append_drop]
  omega
theorem wrap_add (a b : Int) : IntKind.i64.wrap (IntKind.i64.wrap a + IntKind.i64.wrap b) = IntKind.i64.wrap (a + b) := by
  rw [IntKind.wrap_i64, IntKind.wrap_i64, IntKind.wrap_i64, IntKind.wrap_i64]
  omega
theorem cnt_body {l : List Plan.Op} {i j : Nat} {o : Plan.Op} {a : Arm} (hi : l[i]? = some o) (hj : o.arms[j]? = some a) : cntOs a.body < cntOs l := by
  have h1 := cntOs_le (l := l) (i + 1)
  rw [cntOs_succ hi] at h1
  have h2 := cntAs_le (l := o.arms) (j + 1)
  rw [cntAs_succ hj] at h2
  omega
theorem ops_max {w : World} {B : Nat → Prop} {A : Option Addr} {n c : Nat} {l : List Plan.Op} (h : OpsV w B (.slice A n c) l) : l.length ≤ 9223372036854775807 ∧ n = l.length := by
  obtain ⟨xs, ⟨A0, c0, e, j0, j1, j2, -⟩, -⟩ := h
  simp only [Value.slice.injEq] at e
  obtain ⟨-, rfl, rfl⟩ := e
  unfold maxLen at j2
  exact ⟨by omega, rfl⟩
set_option maxRecDepth 100000 in
set_option maxHeartbeats 8000000 in
theorem count_step (l : List Plan.Op) (ih : ∀ b : List Plan.Op, cntOs b < cntOs l → ∀ (W : World) (B : Nat → Prop) (A : Option Addr) (c : Nat), OpsV W B (.slice A (List.length b) c) b → Calls Try.prog 14 #[.slice A (List.length b) c] W fun e w' => e = .returned (.int .i64 (IntKind.i64.wrap (cntOs b))) ∧ Chg [] W w')
    (w : World) (B : Nat → Prop) (A : Option Addr) (c : Nat) (h : OpsV w B (.slice A (List.length l) c) l) : Calls Try.prog 14 #[.slice A (List.length l) c] w fun e w' => e = .returned (.int .i64 (IntKind.i64.wrap (cntOs l))) ∧ Chg [] w w' := by
  have hmx := (ops_max h).1
  obtain ⟨n, hn⟩ : ∃ n, List.length l = n := ⟨_, rfl⟩
  rw [hn] at h hmx ⊢
  obtain ⟨R, hR⟩ : ∃ R, IntKind.i64.wrap (cntOs l : Int) = R := ⟨_, rfl⟩
  rw [hR]
  replace h := Lib.hid h
  replace ih := Lib.hid ih
  replace hn := Lib.hid hn
  replace hR := Lib.hid hR
  go_enter Try.func14, Try.ntmps14
  go_wp2_with fail
  go_loopg [3, 12] n (fun gk v3 v12 wr => ∃ (i : Nat) (z : Int), v3 = .int .i64 z ∧ v12 = .int .i64 i ∧ i ≤ n ∧ gk = n - i ∧ Hid (z = IntKind.i64.wrap ((n : Int) + cntOs (l.take i) - i)) ∧ Hid (Chg [] w wr))
  case atStart => exact ⟨0, n, rfl, rfl, by omega, rfl, Lib.hid (by rw [List.take_zero, cntOs, IntWalk.i64_in _ (by omega)]; omega), Lib.hid (Chg.refl _ _)⟩
  case round =>
    obtain ⟨i, z, rfl, rfl, hi, rfl, hz, hC⟩ := hrel
    by_cases hlt : i < n
    · obtain ⟨o, ho⟩ : ∃ o, l[i]? = some o := ⟨_, List.getElem?_eq_getElem (by have := hn.out; omega)⟩
      obtain ⟨b0, o0, Aw, cw, Aa, ca, rfl, q0, q1, q2, q3, zs, hS, hA⟩ := ops_at (OpsV.chg h.out hC.out (fun _ _ _ => by simp)) hn.out.symm ho
      have hsu := cntOs_succ ho
      obtain ⟨m, hm⟩ : ∃ m, List.length o.arms = m := ⟨_, rfl⟩
      obtain ⟨nw, hnw⟩ : ∃ nw, List.length o.words = nw := ⟨_, rfl⟩
      rw [hm] at q3 hS
      rw [hnw] at q2
      have hm9 : m ≤ 9223372036854775807 := by
        obtain ⟨A0, c0, e, j0, j1, j2, -⟩ := hS
        simp only [Value.slice.injEq] at e
        obtain ⟨-, -, rfl⟩ := e
        unfold maxLen at j2; omega
      have hcb := Lib.hid (fun j a (hj : o.arms[j]? = some a) => ih.out a.body (cnt_body ho hj))
      obtain ⟨ok, hok⟩ : ∃ k, o.kind = k := ⟨_, rfl⟩
      obtain ⟨oa, hoa⟩ : ∃ k, o.at_ = k := ⟨_, rfl⟩
      rw [hok] at q0
      rw [hoa] at q1
      have hCa := Lib.hid (hC.out.alloc (.cells #[.int .i64 ok, .int .i64 oa, .slice Aw nw cw, .slice Aa m ca] 41))
      have hgw := Lib.hid (fun W (hc : Chg [] wr W) => (⟨hS.chg hc (fun _ _ _ => by simp), armsC.chg hc (fun _ _ _ => by simp) _ _ hA⟩ : Sl W 5 (.slice Aa m ca) m zs ∧ armsC W B zs o.arms))
      replace hsu := Lib.hid hsu
      replace hm := Lib.hid hm
      have hCb := Lib.hid ((Chg.refl [] wr).alloc (.cells #[.int .i64 ok, .int .i64 oa, .slice Aw nw cw, .slice Aa m ca] 41))
      clear hS hA hok hoa hnw ho
      go_wp2_with fail
      generalize wr.alloc _ = wi at hCa hCb ⊢
      go_loopg [3, 19] m (fun gk2 v3 v19 wq => ∃ (j : Nat) (y : Int), v3 = .int .i64 y ∧ v19 = .int .i64 j ∧ j ≤ m ∧ gk2 = m - j ∧ Hid (y = IntKind.i64.wrap ((n : Int) + cntOs (l.take i) - i + cntAs (o.arms.take j))) ∧ Hid (Chg [] w wq) ∧ Hid (Chg [] wr wq))
      case atStart => exact ⟨0, z, rfl, rfl, by omega, rfl, Lib.hid (by rw [hz.out, List.take_zero, cntAs]; congr 1; omega), hCa, hCb⟩
      case round =>
        obtain ⟨j, y, rfl, rfl, hj, rfl, hy, hC2, hC3⟩ := hrel
        by_cases hjt : j < m
        · obtain ⟨a, ha⟩ : ∃ a, o.arms[j]? = some a := ⟨_, List.getElem?_eq_getElem (by have := hm.out; omega)⟩
          obtain ⟨kS, kA⟩ := hgw.out _ hC3.out
          obtain ⟨b1, o1, Ap, cp, Ab, cb, rfl, u0, u1, u2, u3, u4, -, hOp⟩ := arms_at kS kA hm.out.symm ha
          have hsa := cntAs_succ ha
          have hcl := hcb.out j a ha
          obtain ⟨x, hx⟩ : ∃ x, IntKind.i64.wrap (cntOs a.body : Int) = x := ⟨_, rfl⟩
          rw [hx] at hcl
          obtain ⟨y', hy'⟩ : ∃ y', IntKind.i64.wrap ((n : Int) + cntOs (l.take i) - i + cntAs (o.arms.take (j + 1))) = y' := ⟨_, rfl⟩
          have hwr : IntKind.i64.wrap (y + x) = y' := by
            rw [hy.out, ← hx, wrap_add, ← hy', hsa]
            congr 1; omega
          obtain ⟨nb, hnb⟩ : ∃ nb, List.length a.body = nb := ⟨_, rfl⟩
          obtain ⟨np, hnp⟩ : ∃ nb, a.pat.parts.length = nb := ⟨_, rfl⟩
          obtain ⟨c1, hc1⟩ : ∃ k, a.kind = k := ⟨_, rfl⟩
          obtain ⟨c2, hc2⟩ : ∃ k, a.pat.at_ = k := ⟨_, rfl⟩
          obtain ⟨c3, hc3⟩ : ∃ k, a.pat.kind = k := ⟨_, rfl⟩
          rw [hnb] at u4 hOp hcl
          rw [hnp] at u3
          rw [hc1] at u0
          rw [hc2] at u1
          rw [hc3] at u2
          have hal := (Chg.refl [] wr).alloc (.cells #[.int .i64 c1, .int .i64 c2, .int .i64 c3, .slice Ap np cp, .slice Ab nb cb] 43)
          have hcl2 := Lib.hid (hcl _ _ Ab cb (OpsV.chg hOp hal (fun _ _ _ => by simp)))
          have hC4 := Lib.hid (hC2.out.trans hal)
          have hC5 := Lib.hid (hC3.out.trans hal)
          replace hy' := Lib.hid hy'
          clear kS kA hsa hcl hx hnb hnp hc1 hc2 hc3 hOp hal ha
          go_wp2_with fail
          refine (hcl2.out).mono ?_
          rintro e w6 ⟨rfl, hC6⟩
          replace hC4 := Lib.hid (hC4.out.trans hC6)
          replace hC5 := Lib.hid (hC5.out.trans hC6)
          clear hcl2 hC6
          go_wp2_with fail
          go_roundg (m - (j + 1))
          case measure => omega
          case rel => exact ⟨j + 1, y', rfl, rfl, by omega, rfl, Lib.hid hy'.out.symm, hC4, hC5⟩
        · obtain rfl : j = m := by omega
          have hy2 := hy.out
          have ht : o.arms.take j = o.arms := List.take_of_length_le (by have := hm.out; omega)
          rw [ht] at hy2
          have hy3 := Lib.hid (show y = IntKind.i64.wrap ((n : Int) + cntOs (l.take (i + 1)) - ((i + 1 : Nat) : Int)) by rw [hy2, hsu.out]; congr 1; omega)
          clear hy2
          go_wp2_with fail
          go_roundg (n - (i + 1))
          case measure => omega
          case rel => exact ⟨i + 1, y, rfl, rfl, by omega, rfl, hy3, hC2⟩
    · obtain rfl : i = n := by omega
      have hz2 := hz.out
      rw [List.take_of_length_le (by have := hn.out; omega), show (i : Int) + cntOs l - i = cntOs l by omega, hR.out] at hz2
      subst hz2
      go_wp2_with fail
      go_ret
      exact ⟨rfl, hC.out⟩
theorem count_all : ∀ (N : Nat) (l : List Plan.Op), cntOs l < N → ∀ (W : World) (B : Nat → Prop) (A : Option Addr) (c : Nat), OpsV W B (.slice A (List.length l) c) l → Calls Try.prog 14 #[.slice A (List.length l) c] W fun e w' => e = .returned (.int .i64 (IntKind.i64.wrap (cntOs l))) ∧ Chg [] W w' := by
  intro N
  induction N with
  | zero => intro l h; omega
  | succ N ih => intro l h W B A c hO; exact count_step l (fun b hb => ih b (by omega)) W B A c hO
theorem count_any (W : World) (B : Nat → Prop) (A : Option Addr) (n c : Nat) (l : List Plan.Op) (hn : n = l.length) (h : OpsV W B (.slice A n c) l) : Calls Try.prog 14 #[.slice A n c] W fun e w' => e = .returned (.int .i64 (IntKind.i64.wrap (cntOs l))) ∧ Chg [] W w' := by
  subst hn
  exact count_all (cntOs l + 1) l (by omega) W B A c h
end Pl
end Go.Proofs.Ytnjjbiialpmhbaa
namespace Go.Proofs.Ytnjjbiialpmhbaa
namespace Pl
open Go.RowKit Tcl Plan
def exS : List UInt8 := [101, 120, 112, 101, 99, 116, 32, 123, 45, 101, 120, 97, 99, 116, 32, 34, 97, 34, 32, 123, 115, 101, 110, 100, 32, 98, 125, 32, 101, 111, 102, 125]
def exT : List UInt8 := [101, 120, 112, 95, 99, 111, 110, 116, 105, 110, 117, 101]
theorem ex_plan : planOf exS = .ok [.mk 3 0 [] [.mk 0 ⟨15, 1, [⟨false, [97]⟩]⟩ [.mk 2 20 [⟨25, 0, [⟨false, [98]⟩]⟩] []], .mk 3 ⟨0, 0, []⟩ []]] := by kernel_rfl
theorem ex_bad : planOf exT = .error (0, 9) := by kernel_rfl
theorem pl_ok {w : World} {s : List UInt8} {e : Ending} {w' : World} {l : List Plan.Op} (h : PlEnd w s e w') (hp : planOf s = .ok l) : Chg [] w w' ∧ ∃ A c, e = .returned (.tuple #[.slice A (List.length l) c, .int .i64 0, .int .i64 0]) ∧ OpsV w' (fun q => w.heap.size ≤ q) (.slice A (List.length l) c) l := by
  obtain ⟨hC, ⟨l', A, c, h1, h2, h3⟩ | ⟨p, q, h1, -⟩⟩ := h
  · rw [hp] at h1; cases h1; exact ⟨hC, A, c, h2, h3⟩
  · rw [hp] at h1; cases h1
theorem pl_bad {w : World} {s : List UInt8} {e : Ending} {w' : World} {p q : Nat} (h : PlEnd w s e w') (hp : planOf s = .error (p, q)) : Chg [] w w' ∧ q ≠ 0 ∧ e = .returned (.tuple #[.slice none 0 0, .int .i64 p, .int .i64 q]) := by
  obtain ⟨hC, ⟨l', A, c, h1, h2, h3⟩ | ⟨p, q, h1, h2, h3⟩⟩ := h
  · rw [hp] at h1; cases h1
  · rw [hp] at h1; cases h1; exact ⟨hC, h2, h3⟩
set_option maxRecDepth 100000 in
set_option maxHeartbeats 16000000 in
theorem alive_any (w : World) : Calls Try.prog 9 #[] w fun e w' => e = .returned (.bool true) ∧ Chg [] w w' := by
  have h1 := Lib.hid (fun w => plan_any w exS (by decide))
  have h2 := Lib.hid (fun w => plan_any w exT (by decide))
  go_enter Try.func9, Try.ntmps9
  go_wp2_with fail
  refine (h1.out w).mono ?_
  rintro e w1 k1
  obtain ⟨hC1, A, c, rfl, hO⟩ := pl_ok k1 ex_plan
  clear k1 h1
  simp only [List.length_singleton] at hO ⊢
  replace hO := Lib.hid hO
  replace hC1 := Lib.hid hC1
  go_wp2_with fail
  refine (h2.out w1).mono ?_
  rintro e w2 k2
  obtain ⟨hC2, -, rfl⟩ := pl_bad k2 ex_bad
  clear k2 h2
  obtain ⟨b0, o0, Aw, cw, Aa, ca, rfl, q0, q1, q2, q3, zs, hS, hA⟩ := ops_at (i := 0) (OpsV.chg hO.out hC2 (fun _ _ _ => by simp)) rfl rfl
  obtain ⟨b1, o1, Ap, cp, Ab, cb, rfl, u0, u1, u2, u3, u4, -, hB⟩ := arms_at (i := 0) hS hA rfl rfl
  obtain ⟨b1', o1', Ap', cp', Ab', cb', e1, v0, v1, v2, v3, v4, -, -⟩ := arms_at (i := 1) hS hA rfl rfl
  cases e1
  obtain ⟨b2, o2, Aw2, cw2, Aa2, ca2, rfl, x0, x1, x2, x3, -⟩ := ops_at (i := 0) hB rfl rfl
  simp only [Op.kind, Op.at_, Op.arms, Op.words, Arm.kind, Arm.body, List.length_cons, List.length_nil, Nat.zero_mul, Nat.one_mul, Nat.add_zero, Nat.zero_add, Nat.reduceAdd, Int.cast_ofNat_Int, Int.ofNat_eq_natCast] at q0 q3 u0 u4 v0 x0 x1
  have hC := Lib.hid (hC1.out.trans hC2)
  clear hC1 hC2 hO hS hA hB q1 q2 u1 u2 u3 v1 v2 v3 v4 x2 x3
  go_wp2_with fail
  go_ret
  exact ⟨rfl, hC.out⟩
end Pl
end Go.Proofs.Ytnjjbiialpmhbaa
namespace Go.Proofs.Ytnjjbiialpmhbaa
namespace Pl
open Go.RowKit Tcl Plan
/-- What the reference's Parse tells, by its first command. -/
theorem ref_ok {w : World} {s : List UInt8} {e : Ending} {w' : World} {cs : List Cmd} (h : Go.Proofs.Ytnjjbiialpmhbaa.PaRes w s e w') (hp : parse s = .ok cs) :
    Chg [] w w' ∧ ∃ A n c, e = .returned (.tuple #[.slice A n c, .int .i64 0, .int .i64 0]) ∧ n = cs.length ∧ (∀ cm, cs = [cm] → ∃ b o A1 c1, A = some ⟨b, o, none⟩ ∧ w'.cell? ⟨b, o + 1, none⟩ = some (.slice A1 cm.words.length c1) ∧
      ∀ w0 w1, cm.words = [w0, w1] → ∃ b1 o1 A2 c2, A1 = some ⟨b1, o1, none⟩ ∧ w'.cell? ⟨b1, o1 + 3 + 1, none⟩ = some (.int .i64 w1.kind) ∧ w'.cell? ⟨b1, o1 + 3 + 2, none⟩ = some (.slice A2 w1.parts.length c2) ∧ PartsAt w' (.slice A2 w1.parts.length c2) w1.parts) := by
  obtain ⟨hC, h | h⟩ := h
  · obtain ⟨A, n, c, xs, cs', rfl, h1, h2, h3, h4, -⟩ := h
    rw [hp] at h1; cases h1
    refine ⟨hC, A, n, c, rfl, h2, fun cm hcm => ?_⟩
    subst hcm
    obtain ⟨A1, c1, ys, e0, e1, k1, k2, -⟩ := h4.2 0 cm rfl
    have hl := h4.1
    obtain ⟨b, o, rfl, hr⟩ := sl_row h3 (by simp at hl; omega)
    refine ⟨b, o, A1, c1, rfl, hr _ _ e1, fun w0 w1 hw => ?_⟩
    have hl2 := k2.1
    obtain ⟨b1, o1, rfl, hr1⟩ := sl_row k1 (by rw [hl2, hw]; simp)
    obtain ⟨A2, c2, -, f1, f2, f3, -⟩ := k2.2 1 w1 (by rw [hw]; rfl)
    exact ⟨b1, o1, A2, c2, rfl, hr1 _ _ f1, hr1 _ _ f2, f3⟩
  · obtain ⟨p, q, -, h1, -⟩ := h
    rw [hp] at h1; cases h1
theorem ref_bad {w : World} {s : List UInt8} {e : Ending} {w' : World} {p q : Nat} (h : Go.Proofs.Ytnjjbiialpmhbaa.PaRes w s e w') (hp : parse s = .error (p, q)) :
    Chg [] w w' ∧ q ≠ 0 ∧ e = .returned (.tuple #[.slice none 0 0, .int .i64 p, .int .i64 q]) := by
  obtain ⟨hC, h | h⟩ := h
  · obtain ⟨A, n, c, xs, cs', rfl, h1, -⟩ := h
    rw [hp] at h1; cases h1
  · obtain ⟨p, q, rfl, h1, h2⟩ := h
    rw [hp] at h1; cases h1
    exact ⟨hC, h2, rfl⟩
theorem cmdOp_at' {rec : List UInt8 → Nat → Except Bad (List Plan.Op)} {body : Bool} {c : Cmd} {o : Plan.Op} (h : cmdOp rec body c = .ok o) : o.at_ = c.at_ := by
  unfold cmdOp at h
  split at h
  · cases h
  · split at h
    · cases h
    · split at h
      · cases h
      · split at h
        · cases h
        · split at h
          · cases h
          · split at h
            · cases h; rfl
            · split at h
              · cases h
              · split at h
                · cases h
                · cases h
                · cases h; rfl
theorem cmdsGo_at' {rec : List UInt8 → Nat → Except Bad (List Plan.Op)} {body : Bool} {M : Nat} : ∀ {cs : List Cmd} {acc l : List Plan.Op}, cmdsGo rec body cs acc = .ok l → (∀ o ∈ acc, o.at_ ≤ M) → (∀ c ∈ cs, c.at_ ≤ M) → ∀ o ∈ l, o.at_ ≤ M := by
  intro cs
  induction cs with
  | nil => intro acc l h ha _; simp only [cmdsGo] at h; cases h; exact ha
  | cons c r ih =>
    intro acc l h ha hc
    simp only [cmdsGo] at h
    split at h
    · cases h
    · rename_i o ho
      refine ih h (fun x hx => ?_) (fun x hx => hc x (by simp [hx]))
      rcases List.mem_append.1 hx with hx | hx
      · exact ha x hx
      · simp at hx; subst hx
        rw [cmdOp_at' ho]; exact hc c (by simp)
theorem plan_at' {s : List UInt8} {l : List Plan.Op} (h : planOf s = .ok l) : ∀ o ∈ l, o.at_ ≤ s.length := by
  obtain ⟨cs, h1, h2⟩ := plan_ok h
  exact cmdsGo_at' h2 (by simp) (fun c hc => by have := ((parse_row h1).1 c hc).1; omega)
set_option maxRecDepth 100000 in
set_option maxHeartbeats 16000000 in
theorem planBodies_walk (s : ByteArray) (hs : s.size ≤ maxLen) (w : World) :
    Calls Try.prog 3 #[.string s] w fun e w' => e = .returned (.bool true) ∧ Below w.heap.size w w' := by
  unfold maxLen at hs
  go_enter Try.func3, Try.ntmps3
  go_upto_region 1 with fail
  go_cut [0] (fun v0 wx => ∃ S : List UInt8, S.length ≤ 1500 ∧ v0 = .string (bstr S) ∧ Chg [] w wx)
  case first =>
    by_cases hs2 : s.size ≤ 1500
    all_goals
      go_wp2_with fail
      go_meet
      exact ⟨_, by show List.length (Array.toList _) ≤ _; rw [Array.length_toList]; show ByteArray.size _ ≤ _; first | exact hs2 | (rw [ByteArray.size_extract]; omega), congrArg _ (bstr_of rfl), Chg.refl [] w⟩
  case rest =>
  obtain ⟨S, hS, rfl, hC⟩ := hcut
  replace hC := Lib.hid hC
  have p1 := Lib.hid (fun W => plan_any W S (by omega))
  have p2 := Lib.hid (fun W => Rt.parse_ref W (xS S) (by rw [xS_len]; omega))
  have p3 := Lib.hid (fun W => Rt.parse_ref W (eS S) (by rw [eS_len]; omega))
  have p4 := Lib.hid (fun W => plan_any W (xS S) (by rw [xS_len]; omega))
  have g1 : (bstr S).size = S.length := rfl
  have hBX : (⟨#[101, 120, 112, 101, 99, 116, 32, 123, 101, 111, 102, 32, 123]⟩ : ByteArray) ++ bstr S ++ (⟨#[125, 125]⟩ : ByteArray) = bstr (xS S) := by
    refine bstr_of ?_; rw [app_list, app_list]; simp [bstr, xS, eS]
  have hBE : (⟨#[101, 111, 102, 32, 123]⟩ : ByteArray) ++ bstr S ++ (⟨#[125]⟩ : ByteArray) = bstr (eS S) := by
    refine bstr_of ?_; rw [app_list, app_list]; simp [bstr, eS]
  obtain ⟨BX, hXe⟩ : ∃ B, bstr (xS S) = B := ⟨_, rfl⟩
  obtain ⟨BE, hEe⟩ : ∃ B, bstr (eS S) = B := ⟨_, rfl⟩
  rw [hXe] at hBX
  rw [hEe] at hBE
  have p2 := Lib.hid (fun W => hXe ▸ p2.out W)
  have p3 := Lib.hid (fun W => hEe ▸ p3.out W)
  have p4 := Lib.hid (fun W => hXe ▸ p4.out W)
  clear hXe hEe
  cases hs : planOf S with
  | error b =>
    obtain ⟨p, q⟩ := b
    replace hs := Lib.hid hs
    go_wp2_with fail
    refine (p1.out _).mono ?_
    rintro e w1 h1
    obtain ⟨hC1, hq, rfl⟩ := pl_bad h1 hs.out
    have hq' : ((q : Int) != 0) = true := by simp; omega
    replace hC := Lib.hid (hC.out.trans hC1)
    clear h1 hC1
    go_wp2_with fail
    refine (alive_any _).mono ?_
    rintro e wz ⟨rfl, hCz⟩
    have hCf := Lib.hid (hC.out.trans hCz)
    clear hCz
    go_wp2_with fail
    go_ret
    exact ⟨rfl, hCf.out.below⟩
  | ok a =>
    have hat := Lib.hid (plan_at' hs)
    replace hs := Lib.hid hs
    go_wp2_with fail
    refine (p1.out _).mono ?_
    rintro e w1 h1
    obtain ⟨hC1, A1, c1, rfl, hO1⟩ := pl_ok h1 hs.out
    replace hC := Lib.hid (hC.out.trans hC1)
    replace hO1 := Lib.hid hO1
    obtain ⟨na, hna⟩ : ∃ n, List.length a = n := ⟨_, rfl⟩
    rw [hna] at hO1 ⊢
    clear h1 hC1
    replace hna := Lib.hid hna
    cases hx : parse (xS S) with
    | error b =>
      obtain ⟨p, q⟩ := b
      replace hx := Lib.hid hx
      go_wp2_with fail
      refine (p2.out _).mono ?_
      rintro e w2 h1
      obtain ⟨hC1, hq, rfl⟩ := ref_bad h1 hx.out
      have hq' : ((q : Int) != 0) = true := by simp; omega
      replace hC := Lib.hid (hC.out.trans hC1)
      clear h1 hC1
      go_wp2_with fail
      refine (alive_any _).mono ?_
      rintro e wz ⟨rfl, hCz⟩
      have hCf := Lib.hid (hC.out.trans hCz)
      clear hCz
      go_wp2_with fail
      go_ret
      exact ⟨rfl, hCf.out.below⟩
    | ok l =>
      replace hx := Lib.hid hx
      go_wp2_with fail
      refine (p2.out _).mono ?_
      rintro e w2 h1
      obtain ⟨hC1, A2, n2, c2, rfl, hn2, hcm⟩ := ref_ok h1 hx.out
      replace hC := Lib.hid (hC.out.trans hC1)
      replace hO1 := Lib.hid (OpsV.chg hO1.out hC1 (fun _ _ _ => by simp))
      clear h1 hC1
      by_cases hl : n2 = 1
      rotate_left
      · have hl' : ((n2 : Int) != 1) = true := by simp; omega
        clear hcm hn2 hl
        go_wp2_with fail
        refine (alive_any _).mono ?_
        rintro e wz ⟨rfl, hCz⟩
        have hCf := Lib.hid (hC.out.trans hCz)
        clear hCz
        go_wp2_with fail
        go_ret
        exact ⟨rfl, hCf.out.below⟩
      subst hl
      obtain ⟨cm, rfl⟩ : ∃ cm, l = [cm] := by
        match l, hn2 with
        | [x], _ => exact ⟨x, rfl⟩
      obtain ⟨b, o, A3, c3, rfl, q1, hw⟩ := hcm cm rfl
      obtain ⟨m2, hm2⟩ : ∃ m, cm.words.length = m := ⟨_, rfl⟩
      rw [hm2] at q1
      clear hcm hn2 hw
      by_cases hl : m2 = 2
      rotate_left
      · have hl' : ((m2 : Int) != 2) = true := by simp; omega
        clear hl hm2
        go_wp2_with fail
        refine (alive_any _).mono ?_
        rintro e wz ⟨rfl, hCz⟩
        have hCf := Lib.hid (hC.out.trans hCz)
        clear hCz
        go_wp2_with fail
        go_ret
        exact ⟨rfl, hCf.out.below⟩
      subst hl
      replace hm2 := Lib.hid hm2
      cases he : parse (eS S) with
      | error b =>
        obtain ⟨p, q⟩ := b
        replace he := Lib.hid he
        go_wp2_with fail
        refine (p3.out _).mono ?_
        rintro e w3 h1
        obtain ⟨hC1, hq, rfl⟩ := ref_bad h1 he.out
        have hq' : ((q : Int) != 0) = true := by simp; omega
        replace hC := Lib.hid (hC.out.trans hC1)
        clear h1 hC1 q1
        go_wp2_with fail
        refine (alive_any _).mono ?_
        rintro e wz ⟨rfl, hCz⟩
        have hCf := Lib.hid (hC.out.trans hCz)
        clear hCz
        go_wp2_with fail
        go_ret
        exact ⟨rfl, hCf.out.below⟩
      | ok l3 =>
        replace he := Lib.hid he
        go_wp2_with fail
        refine (p3.out _).mono ?_
        rintro e w3 h1
        obtain ⟨hC1, A4, n4, c4, rfl, hn4, hcm⟩ := ref_ok h1 he.out
        replace hC := Lib.hid (hC.out.trans hC1)
        replace hO1 := Lib.hid (OpsV.chg hO1.out hC1 (fun _ _ _ => by simp))
        clear h1 hC1 q1
        by_cases hl : n4 = 1
        rotate_left
        · have hl' : ((n4 : Int) != 1) = true := by simp; omega
          clear hcm hn4 hl
          go_wp2_with fail
          refine (alive_any _).mono ?_
          rintro e wz ⟨rfl, hCz⟩
          have hCf := Lib.hid (hC.out.trans hCz)
          clear hCz
          go_wp2_with fail
          go_ret
          exact ⟨rfl, hCf.out.below⟩
        subst hl
        obtain ⟨dm, rfl⟩ : ∃ cm, l3 = [cm] := by
          match l3, hn4 with
          | [x], _ => exact ⟨x, rfl⟩
        obtain ⟨b4, o4, A5, c5, rfl, q1, hw⟩ := hcm dm rfl
        obtain ⟨m4, hm4⟩ : ∃ m, dm.words.length = m := ⟨_, rfl⟩
        rw [hm4] at q1
        clear hcm hn4
        by_cases hl : m4 = 2
        rotate_left
        · have hl' : ((m4 : Int) != 2) = true := by simp; omega
          clear hl hm4 hw
          go_wp2_with fail
          refine (alive_any _).mono ?_
          rintro e wz ⟨rfl, hCz⟩
          have hCf := Lib.hid (hC.out.trans hCz)
          clear hCz
          go_wp2_with fail
          go_ret
          exact ⟨rfl, hCf.out.below⟩
        subst hl
        obtain ⟨w0, w1', hww⟩ : ∃ w0 w1, dm.words = [w0, w1] := by
          match dm.words, hm4 with
          | [x, y], _ => exact ⟨x, y, rfl⟩
        obtain ⟨b5, o5, A6, c6, rfl, u0, u1, hP⟩ := hw w0 w1' hww
        obtain ⟨kd, hkd⟩ : ∃ k, w1'.kind = k := ⟨_, rfl⟩
        rw [hkd] at u0
        obtain ⟨np, hnp⟩ : ∃ k, w1'.parts.length = k := ⟨_, rfl⟩
        rw [hnp] at u1
        replace hm4 := Lib.hid hm4
        replace hww := Lib.hid hww
        replace hP := Lib.hid hP
        replace hnp := Lib.hid hnp
        clear hw
        by_cases hk2 : kd = 2
        rotate_left
        · have hl' : ((kd : Int) != 2) = true := by simp; omega
          clear hk2 hkd
          go_wp2_with fail
          refine (alive_any _).mono ?_
          rintro e wz ⟨rfl, hCz⟩
          have hCf := Lib.hid (hC.out.trans hCz)
          clear hCz
          go_wp2_with fail
          go_ret
          exact ⟨rfl, hCf.out.below⟩
        have hk2' : ((kd : Int) != 2) = false := by simp; omega
        have hk2n : w1'.kind = 2 := hkd.trans hk2
        clear hk2 hkd
        have hol : (openT w1').length ≤ 1506 := by
          have hr := ((parse_row he.out).1 dm (by simp)).2.2 w1' (by rw [hww.out]; simp)
          have h2 : w1'.kind = 2 := hk2n
          have := hr.2 h2
          rw [eS_len] at this; omega
        have hcell : ∀ (k : Nat) (p : Part), w1'.parts[k]? = some p → ∃ b o, A6 = some ⟨b, o, none⟩ ∧ w3.cell? ⟨b, o + k * 2, none⟩ = some (.bool p.var) ∧ w3.cell? ⟨b, o + k * 2 + 1, none⟩ = some (.string (bstr p.s)) := fun k p hk => by
          have hkl := (List.getElem?_eq_some_iff.1 hk).1
          obtain ⟨b, o, h1, h2⟩ := parts_at hP.out (by omega)
          have h3 := h2 k p hk
          rw [← Nat.add_assoc] at h3
          exact ⟨b, o, h1, h3⟩
        have hnp9 : np ≤ 9223372036854775807 := by
          obtain ⟨A0, c0, e, j0, j1, j2, -⟩ := hP.out
          simp only [Value.slice.injEq] at e
          obtain ⟨-, -, rfl⟩ := e
          have := hnp.out
          unfold maxLen at j2; omega
        have htot := Lib.hid (cat_take_le w1'.parts)
        replace hcell := Lib.hid hcell
        replace hol := Lib.hid (show (cat w1'.parts).length ≤ 1506 from hol)
        go_wp2_with fail
        go_loopg [13, 102] np (fun gk v13 v102 wr => ∃ (k : Nat) (Z : ByteArray), v13 = .string Z ∧ v102 = .int .i64 k ∧ k ≤ np ∧ gk = np - k ∧ Hid (Z = bstr (cat (w1'.parts.take k))) ∧ Hid (Chg [] w3 wr))
        case atStart => exact ⟨0, _, rfl, rfl, by omega, rfl, Lib.hid rfl, Lib.hid (Chg.refl _ _)⟩
        case round =>
          obtain ⟨k, Z, rfl, rfl, hk, rfl, hZ, hC2⟩ := hrel
          clear u0 u1 q1 hk2'
          by_cases hlt : k < np
          · obtain ⟨p, hpk⟩ : ∃ p, w1'.parts[k]? = some p := ⟨_, List.getElem?_eq_getElem (by have := hnp.out; omega)⟩
            obtain ⟨b7, o7, rfl, x0, x1⟩ := hcell.out k p hpk
            replace x0 := hC2.out.cell x0 (by simp)
            replace x1 := hC2.out.cell x1 (by simp)
            have hsu := cat_succ hpk
            have htk := htot.out (k + 1)
            rw [hsu, List.length_append] at htk
            have hol' := hol.out
            obtain ⟨Y, hY⟩ : ∃ Y, bstr p.s = Y := ⟨_, rfl⟩
            rw [hY] at x1
            have hYs : Y.size = p.s.length := by rw [← hY]; rfl
            have hZs : Z.size = (cat (w1'.parts.take k)).length := by rw [hZ.out]; rfl
            have hcat : ¬ (9223372036854775807 < Z.size + Y.size) := by omega
            have hZ2 : Hid (Z ++ Y = bstr (cat (w1'.parts.take (k + 1)))) := Lib.hid (by
              rw [hsu, ← hY, hZ.out]
              apply ByteArray.ext
              apply Array.ext'
              simp [bstr])
            clear hsu htk hYs hZs hY hpk hZ hol'
            obtain ⟨v, hv⟩ : ∃ v, p.var = v := ⟨_, rfl⟩
            rw [hv] at x0
            clear hv
            have hC3 := Lib.hid (hC2.out.alloc (.cells #[.bool v, .string Y] 37))
            go_wp2_with fail
            go_roundg (np - (k + 1))
            case measure => omega
            case rel => exact ⟨k + 1, _, rfl, rfl, by omega, rfl, hZ2, hC3⟩
          · obtain rfl : k = np := by omega
            have hZ2 := hZ.out
            rw [List.take_of_length_le (by have := hnp.out; omega)] at hZ2
            replace hC := Lib.hid (hC.out.trans hC2.out)
            replace hO1 := Lib.hid (OpsV.chg hO1.out hC2.out (fun _ _ _ => by simp))
            obtain ⟨Y, hY⟩ : ∃ Y, bstr S = Y := ⟨_, rfl⟩
            by_cases how : cat w1'.parts = S
            rotate_left
            · have hne : Z ≠ Y := by rw [hZ2, ← hY]; exact fun e => how (bstr_inj e)
              have hn1 : (Z == Y) = false := ba_bne hne
              have hn2 : (Z != Y) = true := by unfold bne; rw [hn1]; rfl
              have hn7 : (Z.toList == Y.toList) = false := by rw [ByteArray.toList_eq, ByteArray.toList_eq, beq_eq_false_iff_ne]; exact fun e => hne (ByteArray.ext (Array.ext' e))
              have hn8 : (!(Z.toList == Y.toList)) = true := by rw [hn7]; rfl
              have hn3 : (Y == Z) = false := ba_bne (fun e => hne e.symm)
              have hn4 : decide (Z = Y) = false := decide_eq_false hne
              have hn5 : (!(Z == Y)) = true := by rw [hn1]; rfl
              have hn6 : (!decide (Z = Y)) = true := by rw [hn4]; rfl
              rw [hY] at g1 hBX hBE ⊢
              clear hZ2 hY how hZ

              go_wp2_with fail
              refine (alive_any _).mono ?_
              rintro e wz ⟨rfl, hCz⟩
              have hCf := Lib.hid (hC.out.trans hCz)
              clear hCz
              go_wp2_with fail
              go_ret
              exact ⟨rfl, hCf.out.below⟩
            have hne : Z = bstr S := by rw [hZ2, how]
            subst hne
            have hs1 : (bstr S == bstr S) = true := ba_beq _
            have hs2 : (bstr S != bstr S) = false := by unfold bne; rw [hs1]; rfl
            have hb := Lib.hid (plan_body (by omega) hx.out hm2.out he.out hm4.out (by rw [hww.out]; rfl) how hs.out)
            have hnl : na ≤ 9223372036854775807 := by have := (ops_max hO1.out).1; rw [hna.out] at this; exact this
            clear hZ hZ2 hY how hol hx he hm2 hm4 hww hP hcell htot hnp
            go_wp2_with fail
            refine (p4.out _).mono ?_
            rintro e w4 h1
            obtain ⟨hC1, A7, c7, rfl, hO4⟩ := pl_ok h1 hb.out
            replace hC := Lib.hid (hC.out.trans hC1)
            replace hO1 := Lib.hid (OpsV.chg hO1.out hC1 (fun _ _ _ => by simp))
            obtain ⟨b8, o8, _, _, Aa, ca, rfl, z0, z1, z2, z3, zs, hSa, hAa⟩ := ops_at (i := 0) hO4 rfl rfl
            obtain ⟨b9, o9, _, _, Ab, cb, rfl, y0, y1, y2, y3, y4, -, hOb⟩ := arms_at (i := 0) hSa hAa rfl rfl
            simp only [Op.arms, Arm.body, List.length_cons, List.length_nil, Nat.zero_mul, Nat.add_zero, Nat.zero_add] at z3 y4 hOb ⊢
            have hln : List.length (shOs 13 a) = na := by rw [shOs_map, List.length_map]; exact hna.out
            rw [hln] at y4 hOb
            replace hOb := Lib.hid hOb
            replace hln := Lib.hid hln
            clear h1 hC1 hO4 z0 z1 z2 y0 y1 y2 y3 hSa hAa hb hs1 hs2
            go_wp2_with fail
            go_loopg [157] na (fun gk v157 wr => ∃ (i : Nat), v157 = .int .i64 i ∧ i ≤ na ∧ gk = na - i ∧ Hid (Chg [] w4 wr) ∧ Hid (Chg [] w wr))
            case atStart => exact ⟨0, rfl, by omega, rfl, Lib.hid (Chg.refl _ _), hC⟩
            case round =>
              obtain ⟨i, rfl, hi, rfl, hCa, hCb⟩ := hrel
              clear z3 y4
              by_cases hlt : i < na
              · obtain ⟨o, ho⟩ : ∃ o, a[i]? = some o := ⟨_, List.getElem?_eq_getElem (by have := hna.out; omega)⟩
                obtain ⟨b2, o2, Aw2, cw2, Aa2, ca2, rfl, f0, f1, f2, f3, -⟩ := ops_at (OpsV.chg hO1.out hCa.out (fun _ _ _ => by simp)) hna.out.symm ho
                obtain ⟨b3, o3, Aw3, cw3, Aa3, ca3, rfl, e0, e1, e2, e3, -⟩ := ops_at (o := shO 13 o) (OpsV.chg hOb.out hCa.out (fun _ _ _ => by simp)) hln.out.symm (by rw [shOs_map, List.getElem?_map, ho]; rfl)
                have hoa := hat.out o (List.mem_of_getElem? ho)
                obtain ⟨k, at_, ws, rs⟩ := o
                have hrl : (shAs 13 rs).length = rs.length := by rw [shAs_map, List.length_map]
                simp only [shO, Op.kind, Op.at_, Op.words, Op.arms, List.length_map, hrl] at f0 f1 f2 f3 e0 e1 e2 e3 hoa
                obtain ⟨nw, hnw⟩ : ∃ n, ws.length = n := ⟨_, rfl⟩
                obtain ⟨nr, hnr⟩ : ∃ n, rs.length = n := ⟨_, rfl⟩
                rw [hnw] at f2 e2
                rw [hnr] at f3 e3
                obtain ⟨a', ha'⟩ : ∃ a', at_ + 13 = a' := ⟨_, rfl⟩
                rw [ha'] at e1
                have hwa : IntKind.i64.wrap ((at_ : Int) + 13) = (a' : Int) := by rw [IntWalk.i64_in _ (by omega)]; omega
                have hal := (Chg.refl [] wr).alloc (.cells #[.int .i64 k, .int .i64 a', .slice Aw3 nw cw3, .slice Aa3 nr ca3] 41)
                replace f0 := hal.cell f0 (by simp)
                replace f1 := hal.cell f1 (by simp)
                replace f2 := hal.cell f2 (by simp)
                replace f3 := hal.cell f3 (by simp)
                replace hal := Lib.hid hal
                clear hnw hnr ha' ho hrl
                go_wp2_with fail
                go_quiet (fail)
                go_wp2_with fail
                go_roundg (na - (i + 1))
                case measure => omega
                case rel => exact ⟨i + 1, rfl, by omega, rfl, Lib.hid ((hCa.out.trans hal.out).drewN _), Lib.hid ((hCb.out.trans hal.out).drewN _)⟩
              · obtain rfl : i = na := by omega
                have hC := Lib.hid hCb.out
                go_wp2_with fail
                refine (alive_any _).mono ?_
                rintro e wz ⟨rfl, hCz⟩
                have hCf := Lib.hid (hC.out.trans hCz)
                clear hCz
                go_wp2_with fail
                go_ret
                exact ⟨rfl, hCf.out.below⟩
theorem planBodies_row (v0 : Value) (d0 : Dt) (w : World) (h0 : Reads w .str v0 d0) :
    Calls Try.prog 3 #[v0] w fun e w' => e = .returned (.bool true) ∧ Below w.heap.size w w' := by
  cases h0 with
  | str a0 => exact planBodies_walk _ a0 w
end Pl
end Go.Proofs.Ytnjjbiialpmhbaa
