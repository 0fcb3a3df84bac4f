/- RpScript, RpOps, RpCount, LPlParses: texts of mine, joined. Conditions: as they state. -/
import Derived.Test.YtakcolililbkjaaRpB
import Derived.Test.YtakcolililbkjaaPlScript
import Derived.Test.YtakcolililbkjaaRpA
import Derived.Test.YtakcolililbkjaaPlCount
import Derived.Deep.LoopGhost
import Derived.Test.YtakcolililbkjaaPlAlive
import Derived.Test.YtakcolililbkjaaTclU8
import Derived.Deep.CutBlock
import Derived.IntWalk
import Derived.Deep.DeepCutAuto
set_option linter.unusedVariables false
set_option linter.unusedSimpArgs false
namespace Go.Proofs.Ytakcolililbkjaa
namespace Rp
open Go.RowKit Tcl Plan Pl
theorem Try.info_rop : (Try.prog.info? 61).map (fun i => (i.zero, i.size, i.bytes)) = some (some (.agg #[.int .i64 0, .int .i64 0, .slice none 0 0, .slice none 0 0]), 4, 64) := by kernel_rfl
theorem mem_le_sum : ∀ {l : List Nat} {x : Nat}, x ∈ l → x ≤ l.sum
  | a :: r, x, h => by
    rw [List.sum_cons]
    rcases List.mem_cons.1 h with rfl | h
    · omega
    · have := mem_le_sum h; omega
theorem wordsC_of_at {w : World} {B : Nat → Prop} : ∀ (ws : List Word) (ys : List Value), ys.length = ws.length * 3 → (∀ (k : Nat) (wd : Word), ws[k]? = some wd → ∃ A c, ys[k * 3]? = some (.int .i64 wd.at_) ∧ ys[k * 3 + 1]? = some (.int .i64 wd.kind) ∧ ys[k * 3 + 2]? = some (.slice A wd.parts.length c) ∧
    PartsAt w (.slice A wd.parts.length c) wd.parts ∧ Blk w B (.slice A wd.parts.length c) wd.parts.length) → wordsC w B ys ws := by
  intro ws
  induction ws with
  | nil => intro ys hl _; exact List.length_eq_zero_iff.1 (by simpa using hl)
  | cons wd r ih =>
    intro ys hl h
    obtain ⟨A, c, e0, e1, e2, h3, h4⟩ := h 0 wd rfl
    match ys, hl, e0, e1, e2, h with
    | a :: b :: d :: t, hl, e0, e1, e2, h =>
      simp at e0 e1 e2
      subst e0 e1 e2
      refine ⟨[_, _, _], t, rfl, ⟨A, c, rfl, h3, h4⟩, ih t (by simp at hl; omega) (fun k wd' hk => ?_)⟩
      obtain ⟨A', c', g0, g1, g2, g3, g4⟩ := h (k + 1) wd' (by simpa using hk)
      have e : ∀ (x y z : Value) (j : Nat), (x :: y :: z :: t)[j + 3]? = t[j]? := fun _ _ _ _ => rfl
      rw [show (k + 1) * 3 = k * 3 + 3 by omega, e] at g0
      rw [show (k + 1) * 3 + 1 = (k * 3 + 1) + 3 by omega, e] at g1
      rw [show (k + 1) * 3 + 2 = (k * 3 + 2) + 3 by omega, e] at g2
      exact ⟨A', c', g0, g1, g2, g3, g4⟩
    | [], hl, _, _, _, _ => simp at hl
    | [a], hl, _, _, _, _ => simp at hl; omega
    | [a, b], hl, _, _, _, _ => simp at hl; omega
/-- A command of the reference's, with its words. -/
theorem cm_ws {w : World} {base : Nat} {A : Option Addr} {n c : Nat} {xs : List Value} {cs : List Cmd} (hS : Sl w 2 (.slice A n c) n xs) (hC : CmdsAt w base (Value.slice A n c).ownBlock xs cs) {i : Nat} {cm : Cmd} (hi : cs[i]? = some cm) :
    ∃ b o A1 c1, A = some ⟨b, o, none⟩ ∧ w.cell? ⟨b, o + i * 2, none⟩ = some (.int .i64 cm.at_) ∧ w.cell? ⟨b, o + i * 2 + 1, none⟩ = some (.slice A1 cm.words.length c1) ∧ WsV w (fun q => base ≤ q ∧ q < w.heap.size) A1 cm.words.length c1 cm.words := by
  have hil := (List.getElem?_eq_some_iff.1 hi).1
  obtain ⟨A1, c1, ys, e0, e1, k1, k2, k3⟩ := hC.2 i cm hi
  have hl := hC.1
  obtain ⟨b, o, rfl, hr⟩ := sl_row hS (by omega)
  have hl2 := k2.1
  refine ⟨b, o, A1, c1, rfl, hr _ _ e0, by rw [Nat.add_assoc]; exact hr _ _ e1, rfl, ys, k1, fun q h0 hq => ?_, wordsC_of_at _ _ hl2 (fun k wd hk => ?_)⟩
  · have := k3 q (by omega) hq
    exact ⟨⟨this.1, this.2.1⟩, this.2.1⟩
  · obtain ⟨Ap, cp, f0, f1, f2, f3, f4⟩ := k2.2 k wd hk
    exact ⟨Ap, cp, f0, f1, f2, f3, fun q h0 hq => ⟨⟨(f4 q (parts_pos' h0) hq).1, (f4 q (parts_pos' h0) hq).2.1⟩, (f4 q (parts_pos' h0) hq).2.1⟩⟩
set_option maxRecDepth 100000 in
set_option maxHeartbeats 16000000 in
theorem rscript_step (rec : List UInt8 → Nat → Except Bad (List Plan.Op)) (t : List UInt8) (b : Nat) (body : Bool) (M : Nat) (hrec : RRecOk rec t.length M) (ht : t.length ≤ 50000) (hb : b + t.length ≤ M) (hM : M ≤ 1099511627776) (w : World) :
    Calls Try.prog 17 #[.string (bstr t), .int .i64 b, .bool body] w (RScEnd w (scrA rec body (parseAt t b))) := by
  have hps := Lib.hid (Rt.parse_ref w t ht)
  obtain ⟨R, hR⟩ : ∃ R, scrA rec body (parseAt t b) = R := ⟨_, rfl⟩
  rw [hR]
  obtain ⟨Z, hZ⟩ : ∃ Z, bstr t = Z := ⟨_, rfl⟩
  rw [hZ] at hps ⊢
  replace hR := Lib.hid hR
  replace hrec := Lib.hid hrec
  clear hZ
  go_enter Try.func17, Try.ntmps17
  go_wp2_with fail
  refine (hps.out).mono ?_
  rintro e w8 ⟨hC8, h8 | h8⟩
  rotate_left
  · obtain ⟨p, q, rfl, hcs, hq0⟩ := h8
    have hple := parse_err hcs
    simp only at hple
    obtain ⟨pp, hpp⟩ : ∃ pp, b + p = pp := ⟨_, rfl⟩
    have hwp : IntKind.i64.wrap ((b : Int) + (p : Int)) = (pp : Int) := by rw [IntWalk.i64_in _ (by omega)]; omega
    have hE : R = .error (pp, q) := by
      have h1 := hR.out
      unfold parseAt at h1
      rw [hcs] at h1
      simp only [scrA] at h1
      rw [if_neg hq0, hpp] at h1
      exact h1.symm
    have hqn : ((q : Int) != 0) = true := by simp; omega
    replace hE := Lib.hid hE
    replace hq0 := Lib.hid hq0
    replace hC8 := Lib.hid hC8
    clear hps hR hcs hpp hple
    go_wp2_with fail
    (try rw [Exit.noGoto_ret])
    go_ret3
    unfold RScEnd
    exact ⟨hC8.out, .inr ⟨pp, q, hE.out, hq0.out, rfl⟩⟩
  · obtain ⟨A8, n8, c8, xs, cs, rfl, hcs, hn8, hS8, hX8, -, -⟩ := h8
    have hR2 : cmdsGo rec body (cs.map (shiftC b)) [] = R := by
      have h1 := hR.out
      unfold parseAt at h1
      rw [hcs] at h1
      exact h1
    have hcw := cmd_wd (t := t) (b := b) (cs := cs.map (shiftC b)) (M := M) (by unfold parseAt; rw [hcs]) hb
    have hone := parse_one hcs
    have hn89 : n8 ≤ 50000 := by have := hcw.1; rw [List.length_map] at this; omega
    have hwcap : ∀ cm ∈ cs, cm.words.length ≤ 16777216 := fun cm hc => by
      have h1 := (parse_row hcs).2.2.1
      have h2 : cm.words.length ≤ (cs.map (fun c => c.words.length)).sum := mem_le_sum (List.mem_map.2 ⟨cm, hc, rfl⟩)
      omega
    replace hS8 := Lib.hid hS8
    replace hX8 := Lib.hid hX8
    replace hR2 := Lib.hid hR2
    replace hcw := Lib.hid hcw
    replace hone := Lib.hid hone
    replace hn8 := Lib.hid hn8
    replace hwcap := Lib.hid hwcap
    replace hC8 := Lib.hid hC8
    clear hps hR hcs
    go_wp2_with fail
    go_loopg [12, 13] n8 (fun gk v12 v13 wr => ∃ (i : Nat) (A6 : Option Addr) (c6 : Nat) (acc : List Plan.Op) (xs : List Value), v12 = .slice A6 (List.length acc) c6 ∧ v13 = .int .i64 i ∧ i ≤ n8 ∧ gk = n8 - i ∧ List.length acc ≤ i ∧ Hid (cmdsGo rec body ((cs.map (shiftC b)).drop i) acc = R) ∧
      Hid (wr.ownsRow w8.heap.size 61 4 (.slice A6 (List.length acc) c6) (List.length acc) xs) ∧ Hid (opsC wr (fun x => w.heap.size ≤ x ∧ (Value.slice A6 (List.length acc) c6).ownBlock ≠ some x) xs acc) ∧ Hid (Chg [] w8 wr))
    case atStart => exact ⟨0, none, 0, [], [], rfl, rfl, by omega, rfl, by simp, by rw [List.drop_zero]; exact hR2, Lib.hid (World.ownsRow_nil _ _ _ _), Lib.hid (by rw [opsC]), Lib.hid (Chg.refl _ _)⟩
    case round =>
      clear hR2
      obtain ⟨i, A6, c6, acc, xs6, rfl, rfl, hi, rfl, hai, hR2, hO, hOp, hCr⟩ := hrel
      by_cases hlt : i < n8
      · obtain ⟨cm, hcm⟩ : ∃ cm, cs[i]? = some cm := ⟨_, List.getElem?_eq_getElem (by have := hn8.out; omega)⟩
        have hcm2 : (cs.map (shiftC b))[i]? = some (shiftC b cm) := by rw [List.getElem?_map, hcm]; rfl
        have hmem := List.mem_of_getElem? hcm
        obtain ⟨b5, o5, A7, c7, rfl, u0, u1, hW7⟩ := cm_ws hS8.out hX8.out hcm
        obtain ⟨hcn, hca, hcwd⟩ := hcw.out.2 (shiftC b cm) (List.mem_of_getElem? hcm2)
        replace u0 := hCr.out.cell u0 (by simp)
        replace u1 := hCr.out.cell u1 (by simp)
        have hR3 := hR2.out
        rw [drop_get hcm2, cmdsGo] at hR3
        have hsr := hCr.out.size
        have hs8 := hC8.out.size
        have hWr : WsV wr (fun x => w.heap.size ≤ x ∧ (Value.slice A6 (List.length acc) c6).ownBlock ≠ some x) A7 cm.words.length c7 cm.words := (hW7.chg hCr.out (fun _ _ _ => by simp)).imp (fun q hq _ => ⟨hq.1, fun e => by have := (hO.out.lt q e).1; omega⟩)
        have hco := Lib.hid (rcommand_any rec t.length M hrec.out (by omega) hM (by omega) wr (fun x => w.heap.size ≤ x ∧ (Value.slice A6 (List.length acc) c6).ownBlock ≠ some x) cm A7 cm.words.length c7 b body hWr hcwd (fun wd hw hk => hone.out cm hmem wd hw hk) (by simpa [shiftC] using hcn) hca (hwcap.out cm hmem) (fun q hq => ⟨by omega, fun e => by have := (hO.out.lt q e).2; omega⟩))
        obtain ⟨m7, hm7⟩ : ∃ m7, cm.words.length = m7 := ⟨_, rfl⟩
        rw [hm7] at u1 hco
        replace hR3 := Lib.hid hR3
        clear hW7 hWr hcn hca hcwd hm7 hcm hcm2 hR2 hsr hs8
        go_wp2_with fail
        refine (hco.out).mono ?_
        rintro e w9 h9
        unfold RCoEnd at h9
        obtain ⟨hC9, hcase⟩ := h9
        clear hco u0 u1
        rcases hcase with ⟨o, v0, v1, v2, v3, ho, rfl, hop⟩ | ⟨p5, q5, k5, a5, s5, b5', ho, hq5, rfl, hs5, hb5⟩
        · obtain ⟨k, a, rfl, rfl, o1, o2⟩ : ∃ (k a : Int), v0 = .int .i64 k ∧ v1 = .int .i64 a ∧ v2.oneCell' = true ∧ v3.oneCell' = true := by
            cases o
            rw [opC] at hop
            obtain ⟨_, _, _, _, _, _, h, -⟩ := hop
            simp only [List.cons.injEq] at h
            obtain ⟨rfl, rfl, rfl, rfl, -⟩ := h
            exact ⟨_, _, rfl, rfl, rfl, rfl⟩
          have hR4 := Lib.hid (show cmdsGo rec body ((cs.map (shiftC b)).drop (i + 1)) (acc ++ [o]) = R by have := hR3.out; rw [ho] at this; exact this)
          have hZ0 := Lib.hid (show ROS (w9.alloc (.cells #[.int .i64 0, .int .i64 0, .slice none 0 0, .slice none 0 0] 61)) w9.heap.size 0 0 (.slice none 0 0) (.slice none 0 0) from blk_new _ _)
          have hQ := ROS.put hZ0.out k a v2 v3
          have hal := Chg_setRow ((Chg.refl [] w9).alloc (.cells #[.int .i64 0, .int .i64 0, .slice none 0 0, .slice none 0 0] 61)) (g := w9.heap.size) (.inr (Nat.le_refl _)) #[.int .i64 k, .int .i64 a, v2, v3]
          have hone4 := Lib.hid (show ∀ u ∈ [Value.int .i64 k, .int .i64 a, v2, v3], u.oneCell' = true from by intro u hu; simp at hu; rcases hu with rfl | rfl | rfl | rfl <;> first | rfl | exact o1 | exact o2)
          replace hQ := Lib.hid hQ
          replace hal := Lib.hid hal
          replace hop := Lib.hid hop
          replace hC9 := Lib.hid hC9
          clear hR3 ho
          go_upto_region 9 with (refine wpList_store_rop rfl (.tmp 14) (.tmp 43) rfl w9.heap.size k a v2 v3 o1 o2 rfl rfl hZ0.out ?_)
          generalize hw10 : World.setRow _ _ _ = w10 at hQ hal ⊢
          clear hw10 hZ0
          obtain ⟨z0, z1, z2, z3⟩ := hQ.out.c0
          have hOn := Lib.hid (own_chg (own_chg hO.out hC9.out (by simp)) hal.out (by simp))
          have hsn := Lib.hid (opsC.chg hal.out (fun _ _ _ => by simp) _ _ (opsC.snoc hop.out (opsC.chg hC9.out (fun _ _ _ => by simp) _ _ hOp.out)))
          have hCn := Lib.hid ((hCr.out.trans hC9.out).trans hal.out)
          have hsz := Lib.hid (show w8.heap.size ≤ w10.heap.size from hCn.out.size)
          clear hop hO hOp hCr hC9 hal
          go_wp2_with (at_builtin; refine wpList_append_sl rfl (.tmp 50) (.tmp 52) 44 rfl w8.heap.size 61 (.agg #[.int .i64 0, .int .i64 0, .slice none 0 0, .slice none 0 0]) 4 64 Try.underlying44 Try.info_rop rfl (by decide) _ (List.length acc) xs6 rfl (hOn.out.alloc _) _ 1 [.int .i64 k, .int .i64 a, v2, v3] rfl (sl_wide_new w10 _ 61 4 rfl) hone4.out (List.length acc + 1) rfl (by omega) (by decide) (by have h1 := hsz.out; have h2 : (w10.alloc (.cells #[.int .i64 k, .int .i64 a, v2, v3] 61)).heap.size = w10.heap.size + 1 := Array.size_push ..; omega) ?_)
          intro A' c' w5 hO' hCh hat
          have hlen : List.length (acc ++ [o]) = List.length acc + 1 := by simp
          have hCh2 : Chg (Value.slice A6 (List.length acc) c6).ownBlock.toList w10 w5 := ((Chg.refl _ w10).alloc _).trans hCh
          have hnew : ∀ q, q < w10.heap.size → (Value.slice A6 (List.length acc) c6).ownBlock ≠ some q → (Value.slice A' (List.length acc + 1) c').ownBlock ≠ some q := fun q hq hn e => by
            rcases hat with h | h
            · exact hn (h ▸ e)
            · have := h q e; (try simp at this); omega
          have hs1 := opsC.imp (B' := fun q => (w.heap.size ≤ q ∧ (Value.slice A6 (List.length acc) c6).ownBlock ≠ some q) ∧ q < w10.heap.size) (fun q hq hl => ⟨hq, hl⟩) _ _ hsn.out
          have hs2 := opsC.chg hCh2 (fun q hq _ hm => by simp at hm; exact hq.1.2 hm) _ _ hs1
          have hopN := Lib.hid (opsC.imp (B' := fun x => w.heap.size ≤ x ∧ (Value.slice A' (List.length acc + 1) c').ownBlock ≠ some x) (fun q hq _ => ⟨hq.1.1, hnew q hq.2 hq.1.2⟩) _ _ hs2)
          have hCN := Lib.hid (hCn.out.then hCh2 (fun q hq => .inr (by have := (hOn.out.lt q (by simpa using hq)).1; omega)))
          replace hO' := Lib.hid hO'
          clear hCh hat hCh2 hnew hsn hOn hs1 hs2 z0 z1 z2 z3 hCn
          go_wp2_with fail
          go_roundg (n8 - (i + 1))
          case measure => omega
          case rel => exact ⟨i + 1, A', c', acc ++ [o], xs6 ++ [.int .i64 k, .int .i64 a, v2, v3], by rw [hlen], by go_num, by omega, rfl, by rw [hlen]; omega, hR4, by rw [hlen]; exact hO', by rw [hlen]; exact hopN, hCN⟩
        · have hE := Lib.hid (show R = .error (p5, q5) by have := hR3.out; rw [ho] at this; exact this.symm)
          have hqn : ((q5 : Int) != 0) = true := by simp; omega
          have hZ0 := Lib.hid (show ROS (w9.alloc (.cells #[.int .i64 0, .int .i64 0, .slice none 0 0, .slice none 0 0] 61)) w9.heap.size 0 0 (.slice none 0 0) (.slice none 0 0) from blk_new _ _)
          have hCf := Lib.hid ((hC8.out.trans hCr.out).trans (hC9.trans (Chg_setRow ((Chg.refl [] w9).alloc (.cells #[.int .i64 0, .int .i64 0, .slice none 0 0, .slice none 0 0] 61)) (g := w9.heap.size) (.inr (Nat.le_refl _)) #[.int .i64 k5, .int .i64 a5, s5, b5'])))
          replace hq5 := Lib.hid hq5
          clear hR3 ho hO hOp hCr hC9
          go_upto_region 9 with (refine wpList_store_rop rfl (.tmp 14) (.tmp 43) rfl w9.heap.size k5 a5 s5 b5' hs5 hb5 rfl rfl hZ0.out ?_)
          generalize hw10 : World.setRow _ _ _ = w10 at hCf ⊢
          clear hw10 hZ0
          go_wp2_with fail
          (try rw [Exit.noGoto_ret])
          go_ret3
          unfold RScEnd
          exact ⟨hCf.out, .inr ⟨p5, q5, hE.out, hq5.out, rfl⟩⟩
      · obtain rfl : i = n8 := by omega
        have hE : R = .ok acc := by
          have := hR2.out
          rw [List.drop_eq_nil_of_le (by rw [List.length_map]; have := hn8.out; omega), cmdsGo] at this
          exact this.symm
        replace hE := Lib.hid hE
        clear hR2
        go_wp2_with fail
        go_ret3
        unfold RScEnd
        exact ⟨hC8.out.trans hCr.out, .inl ⟨acc, A6, c6, hE.out, rfl, xs6, own_sl hO.out, fun q _ hq => ⟨by have := (hO.out.lt q hq).1; have := hC8.out.size; omega, (hO.out.lt q hq).2⟩, opsC.imp (fun q hq _ => hq.1) _ _ hOp.out⟩⟩
theorem rscript_any (M : Nat) (hM : M ≤ 1099511627776) : ∀ (n : Nat) (t : List UInt8) (b : Nat) (body : Bool) (w : World), t.length < n → t.length ≤ 50000 → b + t.length ≤ M → Calls Try.prog 17 #[.string (bstr t), .int .i64 b, .bool body] w (RScEnd w (script n t b body)) := by
  intro n
  induction n with
  | zero => intro t b body w h; omega
  | succ n ih =>
    intro t b body w hn ht hb
    have hs : script (n + 1) t b body = scrA (fun u b => script n u b true) body (parseAt t b) := by
      simp only [script]
      cases parseAt t b with
      | error e => rfl
      | ok cs => rfl
    rw [hs]
    exact rscript_step _ t b body M (fun W u b' hu hub => ih u b' true W (by omega) (by omega) hub) ht hb hM w
/-- What the reference's `Parse` tells. -/
def RPlEnd (w : World) (s : List UInt8) (e : Ending) (w' : World) : Prop :=
  Chg [] w w' ∧ ((∃ l A c, planOf s = .ok l ∧ e = .returned (.tuple #[.slice A (List.length l) c, .int .i64 0, .int .i64 0]) ∧ OpsV w' (fun q => w.heap.size ≤ q) (.slice A (List.length l) c) l)
    ∨ (∃ p q : Nat, planOf s = .error (p, q) ∧ q ≠ 0 ∧ e = .returned (.tuple #[.slice none 0 0, .int .i64 p, .int .i64 q])))
set_option maxRecDepth 100000 in
set_option maxHeartbeats 8000000 in
theorem rplan_any (w : World) (s : List UInt8) (hs : s.length ≤ 50000) : Calls Try.prog 9 #[.string (bstr s)] w (RPlEnd w s) := by
  have h : Calls Try.prog 17 #[.string (bstr s), .int .i64 0, .bool false] w (RScEnd w (planOf s)) := rscript_any 1099511627776 (by decide) (s.length + 1) s 0 false w (by omega) hs (by omega)
  have h' := Lib.hid h
  obtain ⟨Z, hZ⟩ : ∃ Z, bstr s = Z := ⟨_, rfl⟩
  rw [hZ] at h' ⊢
  clear h hZ
  go_enter Try.func9, Try.ntmps9
  go_wp2_with fail
  refine h'.out.mono ?_
  rintro e w1 ⟨hC, ⟨l, A, c, h1, rfl, h2⟩ | ⟨p, q, h1, h2, rfl⟩⟩
  · replace h2 := Lib.hid h2
    replace h1 := Lib.hid h1
    replace hC := Lib.hid hC
    clear h'
    go_wp2_with fail
    go_ret3
    unfold RPlEnd
    exact ⟨hC.out, .inl ⟨l, A, c, h1.out, rfl, h2.out⟩⟩
  · replace h2 := Lib.hid h2
    replace h1 := Lib.hid h1
    replace hC := Lib.hid hC
    clear h'
    go_wp2_with fail
    go_ret3
    unfold RPlEnd
    exact ⟨hC.out, .inr ⟨p, q, h1.out, h2.out, rfl⟩⟩
end Rp
end Go.Proofs.Ytakcolililbkjaa
namespace Go.Proofs.Ytakcolililbkjaa
namespace Rp
open Go.RowKit Tcl Plan Pl
theorem ops_at' {w : World} {B : Nat → Prop} {A : Option Addr} {c n : Nat} {l : List Plan.Op} {i : Nat} {o : Plan.Op} (h : OpsV w B (.slice A n c) l) (hn : n = l.length) (hi : l[i]? = some o) :
    ∃ b0 o0 Aw cw Aa ca, A = some ⟨b0, o0, none⟩ ∧ w.cell? ⟨b0, o0 + i * 4, none⟩ = some (.int .i64 o.kind) ∧ w.cell? ⟨b0, o0 + i * 4 + 1, none⟩ = some (.int .i64 o.at_) ∧ w.cell? ⟨b0, o0 + i * 4 + 2, none⟩ = some (.slice Aw o.words.length cw) ∧ w.cell? ⟨b0, o0 + i * 4 + 3, none⟩ = some (.slice Aa o.arms.length ca) ∧
      WsV w B Aw o.words.length cw o.words ∧ ∃ zs, Sl w 5 (.slice Aa o.arms.length ca) o.arms.length zs ∧ armsC w B zs o.arms := by
  subst hn
  obtain ⟨xs, h1, -, h3⟩ := h
  have hil := (List.getElem?_eq_some_iff.1 hi).1
  have hl := h1.len
  obtain ⟨b0, o0, rfl, hr⟩ := sl_row h1 (by omega)
  obtain ⟨p, hp, hx⟩ := opsC.get h3 hi
  obtain ⟨k, a, ws, rs⟩ := o
  rw [opC] at hp
  obtain ⟨Aw, cw, Aa, ca, ys, zs, rfl, ⟨h2, h4, h6⟩, h5, -, h7⟩ := hp
  have x0 := hx 0 (by omega)
  have x1 := hx 1 (by omega)
  have x2 := hx 2 (by omega)
  have x3 := hx 3 (by omega)
  refine ⟨b0, o0, Aw, cw, Aa, ca, rfl, hr _ _ x0, ?_, ?_, ?_, ⟨rfl, ys, h2, h4, h6⟩, zs, h5, h7⟩
  · have := hr _ _ x1; rw [← Nat.add_assoc] at this; exact this
  · have := hr _ _ x2; rw [← Nat.add_assoc] at this; exact this
  · have := hr _ _ x3; rw [← Nat.add_assoc] at this; exact this
/-- One word in a row of its own. -/
theorem ws_one {w : World} {g : Nat} {wd : Word} {A : Option Addr} {c : Nat} {e : TypeId} {f : Nat × Nat} (hg : w.heap[g]? = some (.cells #[.int .i64 wd.at_, .int .i64 wd.kind, .slice A wd.parts.length c] e f)) (hp : PartsAt w (.slice A wd.parts.length c) wd.parts) :
    WsV w (fun _ => True) (some ⟨g, 0, none⟩) 1 1 [wd] := by
  refine ⟨rfl, [.int .i64 wd.at_, .int .i64 wd.kind, .slice A wd.parts.length c], ⟨_, 1, rfl, by simp, Nat.le_refl _, by decide, rfl, fun _ => ⟨_, rfl, fun j u hu => ?_⟩⟩, fun q _ hq => ⟨trivial, ?_⟩, _, [], rfl, ⟨A, c, rfl, hp, fun q h0 hq => ⟨trivial, ?_⟩⟩, rfl⟩
  · have ha : (⟨g, 0, none⟩ : Addr).add j = ⟨g, j, none⟩ := by unfold Addr.add; split <;> simp_all
    rw [ha]
    simp only [World.cell?, hg]
    match j, hu with
    | 0, hu => exact hu
    | 1, hu => exact hu
    | 2, hu => exact hu
    | j + 3, hu => simp at hu
  · have hq' : some g = some q := hq
    cases hq'
    exact lt_heap hg
  · obtain ⟨k, hk, hlt⟩ := Sl.block hp (parts_pos' h0)
    rw [hk] at hq; cases hq; exact hlt
theorem blk_new2 (w : World) (o1 o2 : Obj) : ((w.alloc o1).alloc o2).heap[w.heap.size + 1]? = some o2 := by
  have := blk_new (w.alloc o1) o2
  rwa [show (w.alloc o1).heap.size = w.heap.size + 1 from Array.size_push ..] at this
set_option maxRecDepth 100000 in
set_option maxHeartbeats 16000000 in
theorem same_step (l : List Plan.Op) (ih : ∀ b : List Plan.Op, cntOs b < cntOs l → ∀ (W : World) (B1 B2 : Nat → Prop) (A1 A2 : Option Addr) (c1 c2 : Nat), OpsV W B1 (.slice A1 (List.length b) c1) b → OpsV W B2 (.slice A2 (List.length b) c2) b → Calls Try.prog 10 #[.slice A1 (List.length b) c1, .slice A2 (List.length b) c2] W fun e w' => e = .returned (.bool true) ∧ Chg [] W w')
    (w : World) (B1 B2 : Nat → Prop) (A1 A2 : Option Addr) (c1 c2 : Nat) (h1 : OpsV w B1 (.slice A1 (List.length l) c1) l) (h2 : OpsV w B2 (.slice A2 (List.length l) c2) l) : Calls Try.prog 10 #[.slice A1 (List.length l) c1, .slice A2 (List.length l) c2] w fun e w' => e = .returned (.bool true) ∧ Chg [] w w' := by
  have hmx := (ops_max h1).1
  obtain ⟨n, hn⟩ : ∃ n, List.length l = n := ⟨_, rfl⟩
  rw [hn] at h1 h2 hmx ⊢
  replace h1 := Lib.hid h1
  replace h2 := Lib.hid h2
  replace ih := Lib.hid ih
  replace hn := Lib.hid hn
  have hbe : ((n : Int) != (n : Int)) = false := by simp
  go_enter Try.func10, Try.ntmps10
  go_wp2_with fail
  go_loopg [18] n (fun gk v18 wr => ∃ i : Nat, v18 = .int .i64 i ∧ i ≤ n ∧ gk = n - i ∧ Hid (Chg [] w wr))
  case atStart => exact ⟨0, rfl, by omega, rfl, Lib.hid (Chg.refl _ _)⟩
  case round =>
    obtain ⟨i, rfl, hi, rfl, hC⟩ := hrel
    by_cases hlt : i < n
    · obtain ⟨o, ho⟩ : ∃ o, l[i]? = some o := ⟨_, List.getElem?_eq_getElem (by have := hn.out; omega)⟩
      obtain ⟨b1, o1, Aw, cw, Aa, ca, rfl, q0, q1, q2, q3, hW1, zs, hS1, hA1⟩ := ops_at' (OpsV.chg h1.out hC.out (fun _ _ _ => by simp)) hn.out.symm ho
      obtain ⟨b2, o2, Bw, dw, Ba, da, rfl, r0, r1, r2, r3, hW2, ys, hS2, hA2⟩ := ops_at' (OpsV.chg h2.out hC.out (fun _ _ _ => by simp)) hn.out.symm ho
      have hcb := Lib.hid (fun j a (hj : o.arms[j]? = some a) => ih.out a.body (cnt_body ho hj))
      have hsw := Lib.hid (fun W (hc : Chg [] wr W) => samew_any W o.words B1 B2 Aw Bw _ cw dw (hW1.chg hc (fun _ _ _ => by simp)) (hW2.chg hc (fun _ _ _ => by simp)))
      obtain ⟨m, hm⟩ : ∃ m, List.length o.arms = m := ⟨_, rfl⟩
      obtain ⟨nw, hnw⟩ : ∃ nw, List.length o.words = nw := ⟨_, rfl⟩
      rw [hm] at q3 r3 hS1 hS2
      rw [hnw] at q2 r2 hsw
      have hm9 : m ≤ 9223372036854775807 := by
        obtain ⟨A0, c0, e, j0, j1, j2, -⟩ := hS1
        simp only [Value.slice.injEq] at e
        obtain ⟨-, -, rfl⟩ := e
        unfold maxLen at j2; omega
      obtain ⟨ok, hok⟩ : ∃ k, o.kind = k := ⟨_, rfl⟩
      obtain ⟨oa, hoa⟩ : ∃ k, o.at_ = k := ⟨_, rfl⟩
      rw [hok] at q0 r0
      rw [hoa] at q1 r1
      have hgw := Lib.hid (fun W (hc : Chg [] wr W) => (⟨⟨hS1.chg hc (fun _ _ _ => by simp), armsC.chg hc (fun _ _ _ => by simp) _ _ hA1⟩, ⟨hS2.chg hc (fun _ _ _ => by simp), armsC.chg hc (fun _ _ _ => by simp) _ _ hA2⟩⟩ : (Sl W 5 (.slice Aa m ca) m zs ∧ armsC W B1 zs o.arms) ∧ (Sl W 5 (.slice Ba m da) m ys ∧ armsC W B2 ys o.arms)))
      have y1 := Lib.hid (fun W (hc : Chg [] wr W) => (⟨hc.cell q0 (by simp), hc.cell q1 (by simp), hc.cell q2 (by simp), hc.cell q3 (by simp)⟩ : W.cell? ⟨b1, o1 + i * 4, none⟩ = some (.int .i64 ok) ∧ W.cell? ⟨b1, o1 + i * 4 + 1, none⟩ = some (.int .i64 oa) ∧ W.cell? ⟨b1, o1 + i * 4 + 2, none⟩ = some (.slice Aw nw cw) ∧ W.cell? ⟨b1, o1 + i * 4 + 3, none⟩ = some (.slice Aa m ca)))
      have y2 := Lib.hid (fun W (hc : Chg [] wr W) => (⟨hc.cell r0 (by simp), hc.cell r1 (by simp), hc.cell r2 (by simp), hc.cell r3 (by simp)⟩ : W.cell? ⟨b2, o2 + i * 4, none⟩ = some (.int .i64 ok) ∧ W.cell? ⟨b2, o2 + i * 4 + 1, none⟩ = some (.int .i64 oa) ∧ W.cell? ⟨b2, o2 + i * 4 + 2, none⟩ = some (.slice Bw nw dw) ∧ W.cell? ⟨b2, o2 + i * 4 + 3, none⟩ = some (.slice Ba m da)))
      replace hm := Lib.hid hm
      clear hS1 hA1 hS2 hA2 hW1 hW2 hok hoa hnw ho q0 q1 q2 q3 r0 r1 r2 r3
      go_upto_region 6 with fail
      go_cut [6, 7] (fun v6 v7 wx => ∃ g1 g2 : Nat, v6 = .pointer (some ⟨g1, 0, none⟩) ∧ v7 = .pointer (some ⟨g2, 0, none⟩) ∧ Hid (wx.heap[g1]? = some (.cells #[.int .i64 ok, .int .i64 oa, .slice Aw nw cw, .slice Aa m ca] 35)) ∧ Hid (wx.heap[g2]? = some (.cells #[.int .i64 ok, .int .i64 oa, .slice Bw nw dw, .slice Ba m da] 61)) ∧ Hid (Chg [] wr wx))
      case first =>
        clear h1 h2 ih hcb hsw hgw
        refine wp_region_held (S := fun w' => Chg [] wr w') (by kernel_rfl) ?_
        (try (change wpAnyH _ _ _ _ _ _ _ _ (World.drew _)))
        have hHeld : Chg [] wr (World.drew wr) := (Chg.refl _ _).drew
        refine wpAnyH_take (i := 0) (v := ?_) rfl (by kernel_rfl) (by kernel_rfl) (by kernel_rfl) (fun _ _ _ h => h) (Or.inl ⟨by kernel_rfl, ?_⟩) (by exact hHeld) ?_
        rotate_left
        · (intro w hSw; clear hSw; go_simp; try with_reducible rfl)
        change wpAnyH _ _ _ _ _ _ _ (Act.put _ (some 21) _) _
        (try simp only [Act.put, List.setIfInBounds_toArray, List.set_cons_zero, List.set_cons_succ])
        refine wpAnyH_take (i := 1) (v := ?_) rfl (by kernel_rfl) (by kernel_rfl) (by kernel_rfl) (fun _ _ _ h => h) (Or.inl ⟨by kernel_rfl, ?_⟩) (by exact hHeld) ?_
        rotate_left
        · (intro w hSw; clear hSw; go_simp; try with_reducible rfl)
        change wpAnyH _ _ _ _ _ _ _ (Act.put _ (some 22) _) _
        (try simp only [Act.put, List.setIfInBounds_toArray, List.set_cons_zero, List.set_cons_succ])
        refine wpAnyH_take (i := 2) (v := ?_) rfl (by kernel_rfl) (by kernel_rfl) (by kernel_rfl) (fun _ _ _ h => h) (Or.inl ⟨by kernel_rfl, ?_⟩) (by exact hHeld) ?_
        rotate_left
        · (intro w hSw; have hq := y1.out w hSw; clear hSw; (try obtain ⟨hq, hq2, hq3⟩ := hq); go_simp; try with_reducible rfl)
        change wpAnyH _ _ _ _ _ _ _ (Act.put _ (some 23) _) _
        (try simp only [Act.put, List.setIfInBounds_toArray, List.set_cons_zero, List.set_cons_succ])
        refine wpAnyH_take (i := 3) (v := ?_) rfl (by kernel_rfl) (by kernel_rfl) (by kernel_rfl) (fun _ _ _ h => h) (Or.inl ⟨by kernel_rfl, ?_⟩) (by exact hHeld) ?_
        rotate_left
        · (intro w hSw; have hq := y1.out w hSw; clear hSw; (try obtain ⟨hq, hq2, hq3⟩ := hq); go_simp; try with_reducible rfl)
        change wpAnyH _ _ _ _ _ _ _ (Act.put _ (some 24) _) _
        (try simp only [Act.put, List.setIfInBounds_toArray, List.set_cons_zero, List.set_cons_succ])
        refine wpAnyH_take (i := 4) (v := ?_) rfl (by kernel_rfl) (by kernel_rfl) (by kernel_rfl) (fun _ _ _ h => h) (Or.inl ⟨by kernel_rfl, ?_⟩) (by exact hHeld) ?_
        rotate_left
        · (intro w hSw; clear hSw; go_simp; try with_reducible rfl)
        change wpAnyH _ _ _ _ _ _ _ (Act.put _ (some 25) _) _
        (try simp only [Act.put, List.setIfInBounds_toArray, List.set_cons_zero, List.set_cons_succ])
        refine wpAnyH_take (i := 5) (v := ?_) rfl (by kernel_rfl) (by kernel_rfl) (by kernel_rfl) (fun _ _ _ h => h) (Or.inl ⟨by kernel_rfl, ?_⟩) (by exact hHeld) ?_
        rotate_left
        · (intro w hSw; clear hSw; go_simp; try with_reducible rfl)
        change wpAnyH _ _ _ _ _ _ _ (Act.put _ (some 26) _) _
        (try simp only [Act.put, List.setIfInBounds_toArray, List.set_cons_zero, List.set_cons_succ])
        refine wpAnyH_take (i := 6) (v := ?_) rfl (by kernel_rfl) (by kernel_rfl) (by kernel_rfl) (fun _ _ _ h => h) (Or.inl ⟨by kernel_rfl, ?_⟩) (by exact hHeld) ?_
        rotate_left
        · (intro w hSw; have hq := y2.out w hSw; clear hSw; (try obtain ⟨hq, hq2, hq3⟩ := hq); go_simp; try with_reducible rfl)
        change wpAnyH _ _ _ _ _ _ _ (Act.put _ (some 27) _) _
        (try simp only [Act.put, List.setIfInBounds_toArray, List.set_cons_zero, List.set_cons_succ])
        refine wpAnyH_take (i := 7) (v := ?_) rfl (by kernel_rfl) (by kernel_rfl) (by kernel_rfl) (fun _ _ _ h => h) (Or.inl ⟨by kernel_rfl, ?_⟩) (by exact hHeld) ?_
        rotate_left
        · (intro w hSw; have hq := y2.out w hSw; clear hSw; (try obtain ⟨hq, hq2, hq3⟩ := hq); go_simp; try with_reducible rfl)
        change wpAnyH _ _ _ _ _ _ _ (Act.put _ (some 28) _) _
        (try simp only [Act.put, List.setIfInBounds_toArray, List.set_cons_zero, List.set_cons_succ])
        refine wpAnyH_all (rs := [8, 9]) (by kernel_rfl) (by simp) ?_
        refine AllReadyH.cons rfl (fun K hK => ?_) ?_
        · go_simp
          refine hK.out _ _ (by first | exact hHeld | exact Chg.trans hHeld (by assumption) | exact Chg.alloc hHeld _ | exact Chg.alloc hH9 _ | exact (Chg.setCell hHeld (.inr hge) _).setCell (.inr hge) _ | exact (Chg.setCell hHeld (.inl (by simp)) _).setCell (.inl (by simp)) _) (fun hHeld => ?_)
          clear hK K
          (try simp only [Act.put, List.setIfInBounds_toArray, List.set_cons_zero, List.set_cons_succ])
          refine wpAnyH_all (rs := [9]) (by kernel_rfl) (by simp) ?_
          refine AllReadyH.cons rfl (fun K hK => ?_) ?_
          · go_simp
            refine hK.out _ _ (by first | exact hHeld | exact Chg.trans hHeld (by assumption) | exact Chg.alloc hHeld _ | exact Chg.alloc hH9 _ | exact (Chg.setCell hHeld (.inr hge) _).setCell (.inr hge) _ | exact (Chg.setCell hHeld (.inl (by simp)) _).setCell (.inl (by simp)) _) (fun hHeld => ?_)
            clear hK K
            (try simp only [Act.put, List.setIfInBounds_toArray, List.set_cons_zero, List.set_cons_succ])
            refine wpAnyH_all (rs := [10]) (by kernel_rfl) (by simp) ?_
            refine AllReadyH.cons rfl (fun K hK => ?_) ?_
            · (go_simp; refine hK.out _ _ (((Chg.refl _ _).drew.alloc _).alloc _) (fun hHeld => ?_); clear hK K)
              (try simp only [Act.put, List.setIfInBounds_toArray, List.set_cons_zero, List.set_cons_succ])
              refine wpAnyH_all (rs := [11]) (by kernel_rfl) (by simp) ?_
              refine AllReadyH.cons rfl (fun K hK => ?_) ?_
              · (go_simp; refine hK.out _ _ (((Chg.refl _ _).drew.alloc _).alloc _) (fun hHeld => ?_); clear hK K)
                (try simp only [Act.put, List.setIfInBounds_toArray, List.set_cons_zero, List.set_cons_succ])
                refine wpAnyH_done (by kernel_rfl) ?_ _
                (try simp only [Act.put, List.setIfInBounds_toArray, List.set_cons_zero, List.set_cons_succ])
                go_wp2_with fail
                go_meet
                first
                | exact ⟨_, _, rfl, rfl, Lib.hid (blk_alloc (blk_new wr _) _), Lib.hid (blk_new2 wr _ _), Lib.hid (((Chg.refl [] wr).alloc _).alloc _).drew⟩
                | exact ⟨_, _, rfl, rfl, Lib.hid (blk_new2 wr _ _), Lib.hid (blk_alloc (blk_new wr _) _), Lib.hid (((Chg.refl [] wr).alloc _).alloc _).drew⟩
              exact AllReadyH.nil
            exact AllReadyH.nil
          exact AllReadyH.nil
        refine AllReadyH.cons rfl (fun K hK => ?_) ?_
        · go_simp
          refine hK.out _ _ (by first | exact hHeld | exact Chg.trans hHeld (by assumption) | exact Chg.alloc hHeld _ | exact Chg.alloc hH9 _ | exact (Chg.setCell hHeld (.inr hge) _).setCell (.inr hge) _ | exact (Chg.setCell hHeld (.inl (by simp)) _).setCell (.inl (by simp)) _) (fun hHeld => ?_)
          clear hK K
          (try simp only [Act.put, List.setIfInBounds_toArray, List.set_cons_zero, List.set_cons_succ])
          refine wpAnyH_all (rs := [8]) (by kernel_rfl) (by simp) ?_
          refine AllReadyH.cons rfl (fun K hK => ?_) ?_
          · go_simp
            refine hK.out _ _ (by first | exact hHeld | exact Chg.trans hHeld (by assumption) | exact Chg.alloc hHeld _ | exact Chg.alloc hH9 _ | exact (Chg.setCell hHeld (.inr hge) _).setCell (.inr hge) _ | exact (Chg.setCell hHeld (.inl (by simp)) _).setCell (.inl (by simp)) _) (fun hHeld => ?_)
            clear hK K
            (try simp only [Act.put, List.setIfInBounds_toArray, List.set_cons_zero, List.set_cons_succ])
            refine wpAnyH_all (rs := [10]) (by kernel_rfl) (by simp) ?_
            refine AllReadyH.cons rfl (fun K hK => ?_) ?_
            · (go_simp; refine hK.out _ _ (((Chg.refl _ _).drew.alloc _).alloc _) (fun hHeld => ?_); clear hK K)
              (try simp only [Act.put, List.setIfInBounds_toArray, List.set_cons_zero, List.set_cons_succ])
              refine wpAnyH_all (rs := [11]) (by kernel_rfl) (by simp) ?_
              refine AllReadyH.cons rfl (fun K hK => ?_) ?_
              · (go_simp; refine hK.out _ _ (((Chg.refl _ _).drew.alloc _).alloc _) (fun hHeld => ?_); clear hK K)
                (try simp only [Act.put, List.setIfInBounds_toArray, List.set_cons_zero, List.set_cons_succ])
                refine wpAnyH_done (by kernel_rfl) ?_ _
                (try simp only [Act.put, List.setIfInBounds_toArray, List.set_cons_zero, List.set_cons_succ])
                go_wp2_with fail
                go_meet
                first
                | exact ⟨_, _, rfl, rfl, Lib.hid (blk_alloc (blk_new wr _) _), Lib.hid (blk_new2 wr _ _), Lib.hid (((Chg.refl [] wr).alloc _).alloc _).drew⟩
                | exact ⟨_, _, rfl, rfl, Lib.hid (blk_new2 wr _ _), Lib.hid (blk_alloc (blk_new wr _) _), Lib.hid (((Chg.refl [] wr).alloc _).alloc _).drew⟩
              exact AllReadyH.nil
            exact AllReadyH.nil
          exact AllReadyH.nil
        exact AllReadyH.nil
      case rest =>
      obtain ⟨g1, g2, rfl, rfl, hG1, hG2, hC6⟩ := hcut
      have hbk : ((ok : Int) != (ok : Int)) = false := by simp
      have hba : ((oa : Int) != (oa : Int)) = false := by simp
      have hbm : ((m : Int) != (m : Int)) = false := by simp
      have x0 : wc.cell? ⟨g1, 0, none⟩ = some (.int .i64 ok) := by simp [World.cell?, hG1.out]
      have x1 : wc.cell? ⟨g1, 1, none⟩ = some (.int .i64 oa) := by simp [World.cell?, hG1.out]
      have x2 : wc.cell? ⟨g1, 2, none⟩ = some (.slice Aw nw cw) := by simp [World.cell?, hG1.out]
      have x3 : wc.cell? ⟨g1, 3, none⟩ = some (.slice Aa m ca) := by simp [World.cell?, hG1.out]
      have z0 : wc.cell? ⟨g2, 0, none⟩ = some (.int .i64 ok) := by simp [World.cell?, hG2.out]
      have z1 : wc.cell? ⟨g2, 1, none⟩ = some (.int .i64 oa) := by simp [World.cell?, hG2.out]
      have z2 : wc.cell? ⟨g2, 2, none⟩ = some (.slice Bw nw dw) := by simp [World.cell?, hG2.out]
      have z3 : wc.cell? ⟨g2, 3, none⟩ = some (.slice Ba m da) := by simp [World.cell?, hG2.out]
      clear y1 y2
      go_wp2_with fail
      refine (hsw.out _ hC6.out).mono ?_
      rintro e w5 ⟨rfl, hC5⟩
      replace x3 := hC5.cell x3 (by simp)
      replace z3 := hC5.cell z3 (by simp)
      have hgw5 := Lib.hid (fun W (hc : Chg [] w5 W) => hgw.out W ((hC6.out.trans hC5).trans hc))
      have hC7 := Lib.hid ((hC.out.trans hC6.out).trans hC5)
      have xz := Lib.hid (fun W (hc : Chg [] w5 W) => (⟨hc.cell x3 (by simp), hc.cell z3 (by simp)⟩ : W.cell? ⟨g1, 3, none⟩ = some (.slice Aa m ca) ∧ W.cell? ⟨g2, 3, none⟩ = some (.slice Ba m da)))
      clear x0 x1 x2 z0 z1 z2 hsw hgw hG1 hG2 hC6 hC5 hC
      go_wp2_with fail
      clear x3 z3
      go_loopg [61] m (fun gk v61 wr => ∃ j : Nat, v61 = .int .i64 j ∧ j ≤ m ∧ gk = m - j ∧ Hid (Chg [] w5 wr))
      case atStart => exact ⟨0, rfl, by omega, rfl, Lib.hid (Chg.refl _ _)⟩
      case round =>
        obtain ⟨j, rfl, hj, rfl, hD⟩ := hrel
        by_cases hjt : j < m
        · obtain ⟨a, ha⟩ : ∃ a, o.arms[j]? = some a := ⟨_, List.getElem?_eq_getElem (by have := hm.out; omega)⟩
          obtain ⟨⟨kS1, kA1⟩, ⟨kS2, kA2⟩⟩ := hgw5.out _ hD.out
          obtain ⟨b3, o3, Ap, cp, Ab, cb, rfl, u0, u1, u2, u3, u4, hP1, hO1⟩ := arms_at kS1 kA1 hm.out.symm ha
          obtain ⟨b4, o4, Aq, cq, Ad, cd, rfl, v0, v1, v2, v3, v4, hP2, hO2⟩ := arms_at kS2 kA2 hm.out.symm ha
          have hsw := Lib.hid (fun W g3 g4 (hc : Chg [] wr W) (hg3 : W.heap[g3]? = some (.cells #[.int .i64 a.pat.at_, .int .i64 a.pat.kind, .slice Ap a.pat.parts.length cp] 38)) (hg4 : W.heap[g4]? = some (.cells #[.int .i64 a.pat.at_, .int .i64 a.pat.kind, .slice Aq a.pat.parts.length cq] 38)) =>
            samew_any W [a.pat] _ _ (some ⟨g3, 0, none⟩) (some ⟨g4, 0, none⟩) 1 1 1 (ws_one hg3 (hP1.chg hc (fun _ _ _ => by simp))) (ws_one hg4 (hP2.chg hc (fun _ _ _ => by simp))))
          have hrc := Lib.hid (fun W (hc : Chg [] wr W) => hcb.out j a ha W B1 B2 Ab Ad cb cd (OpsV.chg hO1 hc (fun _ _ _ => by simp)) (OpsV.chg hO2 hc (fun _ _ _ => by simp)))
          obtain ⟨np, hnp⟩ : ∃ np, a.pat.parts.length = np := ⟨_, rfl⟩
          obtain ⟨nb, hnb⟩ : ∃ nb, List.length a.body = nb := ⟨_, rfl⟩
          obtain ⟨ak, hak⟩ : ∃ k, a.kind = k := ⟨_, rfl⟩
          obtain ⟨pa, hpa⟩ : ∃ k, a.pat.at_ = k := ⟨_, rfl⟩
          obtain ⟨pk, hpk⟩ : ∃ k, a.pat.kind = k := ⟨_, rfl⟩
          rw [hak] at u0 v0
          rw [hpa] at u1 v1
          rw [hpk] at u2 v2
          rw [hnp] at u3 v3
          rw [hnb] at u4 v4 hrc
          rw [hpa, hpk, hnp] at hsw
          have y0 := Lib.hid (fun W (hc : Chg [] wr W) => xz.out W (hD.out.trans hc))
          have y1 := Lib.hid (fun W (hc : Chg [] wr W) => (⟨hc.cell u0 (by simp), hc.cell u1 (by simp), hc.cell u2 (by simp), hc.cell u3 (by simp), hc.cell u4 (by simp)⟩ : W.cell? ⟨b3, o3 + j * 5, none⟩ = some (.int .i64 ak) ∧ W.cell? ⟨b3, o3 + j * 5 + 1, none⟩ = some (.int .i64 pa) ∧ W.cell? ⟨b3, o3 + j * 5 + 2, none⟩ = some (.int .i64 pk) ∧ W.cell? ⟨b3, o3 + j * 5 + 3, none⟩ = some (.slice Ap np cp) ∧ W.cell? ⟨b3, o3 + j * 5 + 4, none⟩ = some (.slice Ab nb cb)))
          have y2 := Lib.hid (fun W (hc : Chg [] wr W) => (⟨hc.cell v0 (by simp), hc.cell v1 (by simp), hc.cell v2 (by simp), hc.cell v3 (by simp), hc.cell v4 (by simp)⟩ : W.cell? ⟨b4, o4 + j * 5, none⟩ = some (.int .i64 ak) ∧ W.cell? ⟨b4, o4 + j * 5 + 1, none⟩ = some (.int .i64 pa) ∧ W.cell? ⟨b4, o4 + j * 5 + 2, none⟩ = some (.int .i64 pk) ∧ W.cell? ⟨b4, o4 + j * 5 + 3, none⟩ = some (.slice Aq np cq) ∧ W.cell? ⟨b4, o4 + j * 5 + 4, none⟩ = some (.slice Ad nb cd)))
          clear kS1 kA1 kS2 kA2 u0 u1 u2 u3 u4 v0 v1 v2 v3 v4 hP1 hP2 hO1 hO2 hnp hnb hak hpa hpk ha
          go_upto_region 12 with fail
          go_cut [9, 10] (fun v9 v10 wx => ∃ g3 g4 : Nat, v9 = .pointer (some ⟨g3, 0, none⟩) ∧ v10 = .pointer (some ⟨g4, 0, none⟩) ∧ Hid (wx.heap[g3]? = some (.cells #[.int .i64 ak, .int .i64 pa, .int .i64 pk, .slice Ap np cp, .slice Ab nb cb] 40)) ∧ Hid (wx.heap[g4]? = some (.cells #[.int .i64 ak, .int .i64 pa, .int .i64 pk, .slice Aq np cq, .slice Ad nb cd] 64)) ∧ Hid (Chg [] wr wx))
          case first =>
            clear hsw hrc
            refine wp_region_held (S := fun w' => Chg [] wr w') (by kernel_rfl) ?_
            (try (change wpAnyH _ _ _ _ _ _ _ _ (World.drew _)))
            have hHeld : Chg [] wr (World.drew wr) := (Chg.refl _ _).drew
            refine wpAnyH_take (i := 0) (v := ?_) rfl (by kernel_rfl) (by kernel_rfl) (by kernel_rfl) (fun _ _ _ h => h) (Or.inl ⟨by kernel_rfl, ?_⟩) (by exact hHeld) ?_
            rotate_left
            · (intro w hSw; clear hSw; go_simp; try with_reducible rfl)
            change wpAnyH _ _ _ _ _ _ _ (Act.put _ (some 64) _) _
            (try simp only [Act.put, List.setIfInBounds_toArray, List.set_cons_zero, List.set_cons_succ])
            refine wpAnyH_take (i := 1) (v := ?_) rfl (by kernel_rfl) (by kernel_rfl) (by kernel_rfl) (fun _ _ _ h => h) (Or.inl ⟨by kernel_rfl, ?_⟩) (by exact hHeld) ?_
            rotate_left
            · (intro w hSw; have hq := y0.out w hSw; clear hSw; (try obtain ⟨hq, hq2, hq3⟩ := hq); go_simp; try with_reducible rfl)
            change wpAnyH _ _ _ _ _ _ _ (Act.put _ (some 65) _) _
            (try simp only [Act.put, List.setIfInBounds_toArray, List.set_cons_zero, List.set_cons_succ])
            refine wpAnyH_take (i := 2) (v := ?_) rfl (by kernel_rfl) (by kernel_rfl) (by kernel_rfl) (fun _ _ _ h => h) (Or.inl ⟨by kernel_rfl, ?_⟩) (by exact hHeld) ?_
            rotate_left
            · (intro w hSw; clear hSw; go_simp; try with_reducible rfl)
            change wpAnyH _ _ _ _ _ _ _ (Act.put _ (some 66) _) _
            (try simp only [Act.put, List.setIfInBounds_toArray, List.set_cons_zero, List.set_cons_succ])
            refine wpAnyH_take (i := 3) (v := ?_) rfl (by kernel_rfl) (by kernel_rfl) (by kernel_rfl) (fun _ _ _ h => h) (Or.inl ⟨by kernel_rfl, ?_⟩) (by exact hHeld) ?_
            rotate_left
            · (intro w hSw; have hq := y1.out w hSw; clear hSw; (try obtain ⟨hq, hq2, hq3⟩ := hq); go_simp; try with_reducible rfl)
            change wpAnyH _ _ _ _ _ _ _ (Act.put _ (some 67) _) _
            (try simp only [Act.put, List.setIfInBounds_toArray, List.set_cons_zero, List.set_cons_succ])
            refine wpAnyH_take (i := 4) (v := ?_) rfl (by kernel_rfl) (by kernel_rfl) (by kernel_rfl) (fun _ _ _ h => h) (Or.inl ⟨by kernel_rfl, ?_⟩) (by exact hHeld) ?_
            rotate_left
            · (intro w hSw; have hq := y1.out w hSw; clear hSw; (try obtain ⟨hq, hq2, hq3⟩ := hq); go_simp; try with_reducible rfl)
            change wpAnyH _ _ _ _ _ _ _ (Act.put _ (some 68) _) _
            (try simp only [Act.put, List.setIfInBounds_toArray, List.set_cons_zero, List.set_cons_succ])
            refine wpAnyH_take (i := 5) (v := ?_) rfl (by kernel_rfl) (by kernel_rfl) (by kernel_rfl) (fun _ _ _ h => h) (Or.inl ⟨by kernel_rfl, ?_⟩) (by exact hHeld) ?_
            rotate_left
            · (intro w hSw; clear hSw; go_simp; try with_reducible rfl)
            change wpAnyH _ _ _ _ _ _ _ (Act.put _ (some 69) _) _
            (try simp only [Act.put, List.setIfInBounds_toArray, List.set_cons_zero, List.set_cons_succ])
            refine wpAnyH_take (i := 6) (v := ?_) rfl (by kernel_rfl) (by kernel_rfl) (by kernel_rfl) (fun _ _ _ h => h) (Or.inl ⟨by kernel_rfl, ?_⟩) (by exact hHeld) ?_
            rotate_left
            · (intro w hSw; have hq := y0.out w hSw; clear hSw; (try obtain ⟨hq, hq2, hq3⟩ := hq); go_simp; try with_reducible rfl)
            change wpAnyH _ _ _ _ _ _ _ (Act.put _ (some 70) _) _
            (try simp only [Act.put, List.setIfInBounds_toArray, List.set_cons_zero, List.set_cons_succ])
            refine wpAnyH_take (i := 7) (v := ?_) rfl (by kernel_rfl) (by kernel_rfl) (by kernel_rfl) (fun _ _ _ h => h) (Or.inl ⟨by kernel_rfl, ?_⟩) (by exact hHeld) ?_
            rotate_left
            · (intro w hSw; clear hSw; go_simp; try with_reducible rfl)
            change wpAnyH _ _ _ _ _ _ _ (Act.put _ (some 71) _) _
            (try simp only [Act.put, List.setIfInBounds_toArray, List.set_cons_zero, List.set_cons_succ])
            refine wpAnyH_take (i := 8) (v := ?_) rfl (by kernel_rfl) (by kernel_rfl) (by kernel_rfl) (fun _ _ _ h => h) (Or.inl ⟨by kernel_rfl, ?_⟩) (by exact hHeld) ?_
            rotate_left
            · (intro w hSw; have hq := y2.out w hSw; clear hSw; (try obtain ⟨hq, hq2, hq3⟩ := hq); go_simp; try with_reducible rfl)
            change wpAnyH _ _ _ _ _ _ _ (Act.put _ (some 72) _) _
            (try simp only [Act.put, List.setIfInBounds_toArray, List.set_cons_zero, List.set_cons_succ])
            refine wpAnyH_take (i := 9) (v := ?_) rfl (by kernel_rfl) (by kernel_rfl) (by kernel_rfl) (fun _ _ _ h => h) (Or.inl ⟨by kernel_rfl, ?_⟩) (by exact hHeld) ?_
            rotate_left
            · (intro w hSw; have hq := y2.out w hSw; clear hSw; (try obtain ⟨hq, hq2, hq3⟩ := hq); go_simp; try with_reducible rfl)
            change wpAnyH _ _ _ _ _ _ _ (Act.put _ (some 73) _) _
            (try simp only [Act.put, List.setIfInBounds_toArray, List.set_cons_zero, List.set_cons_succ])
            refine wpAnyH_all (rs := [10, 11]) (by kernel_rfl) (by simp) ?_
            refine AllReadyH.cons rfl (fun K hK => ?_) ?_
            · go_simp
              refine hK.out _ _ (by first | exact hHeld | exact Chg.trans hHeld (by assumption) | exact Chg.alloc hHeld _ | exact Chg.alloc hH9 _ | exact (Chg.setCell hHeld (.inr hge) _).setCell (.inr hge) _ | exact (Chg.setCell hHeld (.inl (by simp)) _).setCell (.inl (by simp)) _) (fun hHeld => ?_)
              clear hK K
              (try simp only [Act.put, List.setIfInBounds_toArray, List.set_cons_zero, List.set_cons_succ])
              refine wpAnyH_all (rs := [11]) (by kernel_rfl) (by simp) ?_
              refine AllReadyH.cons rfl (fun K hK => ?_) ?_
              · go_simp
                refine hK.out _ _ (by first | exact hHeld | exact Chg.trans hHeld (by assumption) | exact Chg.alloc hHeld _ | exact Chg.alloc hH9 _ | exact (Chg.setCell hHeld (.inr hge) _).setCell (.inr hge) _ | exact (Chg.setCell hHeld (.inl (by simp)) _).setCell (.inl (by simp)) _) (fun hHeld => ?_)
                clear hK K
                (try simp only [Act.put, List.setIfInBounds_toArray, List.set_cons_zero, List.set_cons_succ])
                refine wpAnyH_all (rs := [12]) (by kernel_rfl) (by simp) ?_
                refine AllReadyH.cons rfl (fun K hK => ?_) ?_
                · (go_simp; refine hK.out _ _ (((Chg.refl _ _).drew.alloc _).alloc _) (fun hHeld => ?_); clear hK K)
                  (try simp only [Act.put, List.setIfInBounds_toArray, List.set_cons_zero, List.set_cons_succ])
                  refine wpAnyH_all (rs := [13]) (by kernel_rfl) (by simp) ?_
                  refine AllReadyH.cons rfl (fun K hK => ?_) ?_
                  · (go_simp; refine hK.out _ _ (((Chg.refl _ _).drew.alloc _).alloc _) (fun hHeld => ?_); clear hK K)
                    (try simp only [Act.put, List.setIfInBounds_toArray, List.set_cons_zero, List.set_cons_succ])
                    refine wpAnyH_done (by kernel_rfl) ?_ _
                    (try simp only [Act.put, List.setIfInBounds_toArray, List.set_cons_zero, List.set_cons_succ])
                    go_wp2_with fail
                    go_meet
                    first
                    | exact ⟨_, _, rfl, rfl, Lib.hid (blk_alloc (blk_new wr _) _), Lib.hid (blk_new2 wr _ _), Lib.hid (((Chg.refl [] wr).alloc _).alloc _).drew⟩
                    | exact ⟨_, _, rfl, rfl, Lib.hid (blk_new2 wr _ _), Lib.hid (blk_alloc (blk_new wr _) _), Lib.hid (((Chg.refl [] wr).alloc _).alloc _).drew⟩
                  exact AllReadyH.nil
                exact AllReadyH.nil
              exact AllReadyH.nil
            refine AllReadyH.cons rfl (fun K hK => ?_) ?_
            · go_simp
              refine hK.out _ _ (by first | exact hHeld | exact Chg.trans hHeld (by assumption) | exact Chg.alloc hHeld _ | exact Chg.alloc hH9 _ | exact (Chg.setCell hHeld (.inr hge) _).setCell (.inr hge) _ | exact (Chg.setCell hHeld (.inl (by simp)) _).setCell (.inl (by simp)) _) (fun hHeld => ?_)
              clear hK K
              (try simp only [Act.put, List.setIfInBounds_toArray, List.set_cons_zero, List.set_cons_succ])
              refine wpAnyH_all (rs := [10]) (by kernel_rfl) (by simp) ?_
              refine AllReadyH.cons rfl (fun K hK => ?_) ?_
              · go_simp
                refine hK.out _ _ (by first | exact hHeld | exact Chg.trans hHeld (by assumption) | exact Chg.alloc hHeld _ | exact Chg.alloc hH9 _ | exact (Chg.setCell hHeld (.inr hge) _).setCell (.inr hge) _ | exact (Chg.setCell hHeld (.inl (by simp)) _).setCell (.inl (by simp)) _) (fun hHeld => ?_)
                clear hK K
                (try simp only [Act.put, List.setIfInBounds_toArray, List.set_cons_zero, List.set_cons_succ])
                refine wpAnyH_all (rs := [12]) (by kernel_rfl) (by simp) ?_
                refine AllReadyH.cons rfl (fun K hK => ?_) ?_
                · (go_simp; refine hK.out _ _ (((Chg.refl _ _).drew.alloc _).alloc _) (fun hHeld => ?_); clear hK K)
                  (try simp only [Act.put, List.setIfInBounds_toArray, List.set_cons_zero, List.set_cons_succ])
                  refine wpAnyH_all (rs := [13]) (by kernel_rfl) (by simp) ?_
                  refine AllReadyH.cons rfl (fun K hK => ?_) ?_
                  · (go_simp; refine hK.out _ _ (((Chg.refl _ _).drew.alloc _).alloc _) (fun hHeld => ?_); clear hK K)
                    (try simp only [Act.put, List.setIfInBounds_toArray, List.set_cons_zero, List.set_cons_succ])
                    refine wpAnyH_done (by kernel_rfl) ?_ _
                    (try simp only [Act.put, List.setIfInBounds_toArray, List.set_cons_zero, List.set_cons_succ])
                    go_wp2_with fail
                    go_meet
                    first
                    | exact ⟨_, _, rfl, rfl, Lib.hid (blk_alloc (blk_new wr _) _), Lib.hid (blk_new2 wr _ _), Lib.hid (((Chg.refl [] wr).alloc _).alloc _).drew⟩
                    | exact ⟨_, _, rfl, rfl, Lib.hid (blk_new2 wr _ _), Lib.hid (blk_alloc (blk_new wr _) _), Lib.hid (((Chg.refl [] wr).alloc _).alloc _).drew⟩
                  exact AllReadyH.nil
                exact AllReadyH.nil
              exact AllReadyH.nil
            exact AllReadyH.nil
          case rest =>
          obtain ⟨g3, g4, rfl, rfl, hG3, hG4, hC8⟩ := hcut
          have hbk : ((ak : Int) != (ak : Int)) = false := by simp
          have x0 : wc.cell? ⟨g3, 0, none⟩ = some (.int .i64 ak) := by simp [World.cell?, hG3.out]
          have x1 : wc.cell? ⟨g3, 1, none⟩ = some (.int .i64 pa) := by simp [World.cell?, hG3.out]
          have x2 : wc.cell? ⟨g3, 2, none⟩ = some (.int .i64 pk) := by simp [World.cell?, hG3.out]
          have x3 : wc.cell? ⟨g3, 3, none⟩ = some (.slice Ap np cp) := by simp [World.cell?, hG3.out]
          have x4 : wc.cell? ⟨g3, 4, none⟩ = some (.slice Ab nb cb) := by simp [World.cell?, hG3.out]
          have z0 : wc.cell? ⟨g4, 0, none⟩ = some (.int .i64 ak) := by simp [World.cell?, hG4.out]
          have z1 : wc.cell? ⟨g4, 1, none⟩ = some (.int .i64 pa) := by simp [World.cell?, hG4.out]
          have z2 : wc.cell? ⟨g4, 2, none⟩ = some (.int .i64 pk) := by simp [World.cell?, hG4.out]
          have z3 : wc.cell? ⟨g4, 3, none⟩ = some (.slice Aq np cq) := by simp [World.cell?, hG4.out]
          have z4 : wc.cell? ⟨g4, 4, none⟩ = some (.slice Ad nb cd) := by simp [World.cell?, hG4.out]
          have hal := ((Chg.refl [] wc).alloc (.cells #[.int .i64 pa, .int .i64 pk, .slice Ap np cp] 38)).alloc (.cells #[.int .i64 pa, .int .i64 pk, .slice Aq np cq] 38)
          have hsw2 := Lib.hid (hsw.out _ _ _ (hC8.out.trans hal) (blk_alloc (blk_new wc _) _) (blk_new2 wc _ _))
          have hal1 := (Chg.refl [] wc).alloc (.cells #[.int .i64 pa, .int .i64 pk, .slice Ap np cp] 38)
          have z1' := hal1.cell z1 (by simp)
          have z2' := hal1.cell z2 (by simp)
          have z3' := hal1.cell z3 (by simp)
          clear y1 y2 hsw
          go_wp2_with fail
          refine hsw2.out.mono ?_
          rintro e w6 ⟨rfl, hC9⟩
          have hC10 := hal.trans hC9
          replace x4 := hC10.cell x4 (by simp)
          replace z4 := hC10.cell z4 (by simp)
          have hrc2 := Lib.hid (hrc.out w6 (hC8.out.trans hC10))
          have hD2 := Lib.hid ((hD.out.trans hC8.out).trans hC10)
          clear hsw2 hrc hC8 hC9 hal hal1 hC10 z1' z2' z3' x0 x1 x2 x3 z0 z1 z2 z3 hG3 hG4
          go_wp2_with fail
          refine hrc2.out.mono ?_
          rintro e w7 ⟨rfl, hC9⟩
          have hD3 := Lib.hid (hD2.out.trans hC9)
          clear hrc2 hC9 x4 z4
          go_wp2_with fail
          go_roundg (m - (j + 1))
          case measure => omega
          case rel => exact ⟨j + 1, rfl, by omega, rfl, hD3⟩
        · obtain rfl : j = m := by omega
          have hC8 := Lib.hid (hC7.out.trans hD.out)
          go_wp2_with fail
          go_roundg (n - (i + 1))
          case measure => omega
          case rel => exact ⟨i + 1, rfl, by omega, rfl, hC8⟩
    · obtain rfl : i = n := by omega
      go_wp2_with fail
      go_ret
      exact ⟨rfl, hC.out⟩
theorem same_all : ∀ (N : Nat) (l : List Plan.Op), cntOs l < N → ∀ (W : World) (B1 B2 : Nat → Prop) (A1 A2 : Option Addr) (c1 c2 : Nat), OpsV W B1 (.slice A1 (List.length l) c1) l → OpsV W B2 (.slice A2 (List.length l) c2) l → Calls Try.prog 10 #[.slice A1 (List.length l) c1, .slice A2 (List.length l) c2] W fun e w' => e = .returned (.bool true) ∧ Chg [] W w' := by
  intro N
  induction N with
  | zero => intro l h; omega
  | succ N ih => intro l h W B1 B2 A1 A2 c1 c2 h1 h2; exact same_step l (fun b hb => ih b (by omega)) W B1 B2 A1 A2 c1 c2 h1 h2
theorem same_any (W : World) (B1 B2 : Nat → Prop) (A1 A2 : Option Addr) (n c1 c2 : Nat) (l : List Plan.Op) (hn : n = l.length) (h1 : OpsV W B1 (.slice A1 n c1) l) (h2 : OpsV W B2 (.slice A2 n c2) l) : Calls Try.prog 10 #[.slice A1 n c1, .slice A2 n c2] W fun e w' => e = .returned (.bool true) ∧ Chg [] W w' := by
  subst hn
  exact same_all (cntOs l + 1) l (by omega) W B1 B2 A1 A2 c1 c2 h1 h2
end Rp
end Go.Proofs.Ytakcolililbkjaa
namespace Go.Proofs.Ytakcolililbkjaa
namespace Rp
open Go.RowKit Tcl Plan Pl
theorem wrap_one (a : Int) : IntKind.i64.wrap (IntKind.i64.wrap a + 1) = IntKind.i64.wrap (a + 1) := by
  rw [IntKind.wrap_i64, IntKind.wrap_i64, IntKind.wrap_i64]
  omega
set_option maxRecDepth 100000 in
set_option maxHeartbeats 8000000 in
theorem count_step (l : List Plan.Op) (ih : ∀ b : List Plan.Op, cntOs b < cntOs l → ∀ (W : World) (B : Nat → Prop) (A : Option Addr) (c : Nat), OpsV W B (.slice A (List.length b) c) b → Calls Try.prog 12 #[.slice A (List.length b) c] W fun e w' => e = .returned (.int .i64 (IntKind.i64.wrap (cntOs b))) ∧ Chg [] W w')
    (w : World) (B : Nat → Prop) (A : Option Addr) (c : Nat) (h : OpsV w B (.slice A (List.length l) c) l) : Calls Try.prog 12 #[.slice A (List.length l) c] w fun e w' => e = .returned (.int .i64 (IntKind.i64.wrap (cntOs l))) ∧ Chg [] w w' := by
  have hmx := (ops_max h).1
  obtain ⟨n, hn⟩ : ∃ n, List.length l = n := ⟨_, rfl⟩
  rw [hn] at h hmx ⊢
  obtain ⟨R, hR⟩ : ∃ R, IntKind.i64.wrap (cntOs l : Int) = R := ⟨_, rfl⟩
  rw [hR]
  replace h := Lib.hid h
  replace ih := Lib.hid ih
  replace hn := Lib.hid hn
  replace hR := Lib.hid hR
  go_enter Try.func12, Try.ntmps12
  go_wp2_with fail
  go_loopg [3, 4] n (fun gk v3 v4 wr => ∃ (i : Nat) (z : Int), v3 = .int .i64 z ∧ v4 = .int .i64 i ∧ i ≤ n ∧ gk = n - i ∧ Hid (z = IntKind.i64.wrap (cntOs (l.take i))) ∧ Hid (Chg [] w wr))
  case atStart => exact ⟨0, 0, rfl, rfl, by omega, rfl, Lib.hid (by rw [List.take_zero, cntOs]; rfl), Lib.hid (Chg.refl _ _)⟩
  case round =>
    obtain ⟨i, z, rfl, rfl, hi, rfl, hz, hC⟩ := hrel
    by_cases hlt : i < n
    · obtain ⟨o, ho⟩ : ∃ o, l[i]? = some o := ⟨_, List.getElem?_eq_getElem (by have := hn.out; omega)⟩
      have hsu := cntOs_succ ho
      obtain ⟨m, hm⟩ : ∃ m, List.length o.arms = m := ⟨_, rfl⟩
      have hops := Lib.hid (fun W (hc : Chg [] w W) => ops_at (OpsV.chg h.out hc (fun _ _ _ => by simp)) hn.out.symm ho)
      have hm9 : m ≤ 9223372036854775807 := by
        obtain ⟨b0, o0, Aw, cw, Aa, ca, -, -, -, -, -, zs, hS, -⟩ := hops.out w (Chg.refl _ _)
        obtain ⟨A0, c0, e, j0, j1, j2, -⟩ := hS
        simp only [Value.slice.injEq] at e
        obtain ⟨-, -, rfl⟩ := e
        unfold maxLen at j2; omega
      have hcb := Lib.hid (fun j a (hj : o.arms[j]? = some a) => ih.out a.body (cnt_body ho hj))
      have hz1 : IntKind.i64.wrap (z + 1) = IntKind.i64.wrap (cntOs (l.take i) + 1 : Int) := by rw [hz.out, wrap_one]
      obtain ⟨z1, hz1'⟩ : ∃ z1, IntKind.i64.wrap (z + 1) = z1 := ⟨_, rfl⟩
      have hz2 := Lib.hid (hz1'.symm.trans hz1)
      replace hsu := Lib.hid hsu
      replace hm := Lib.hid hm
      clear hz1 ho
      go_upto_block 2 with (fail)
      go_wp2
      clear hz1'
      go_loopg [3, 5] m (fun gk2 v3 v5 wq => ∃ (j : Nat) (y : Int), v3 = .int .i64 y ∧ v5 = .int .i64 j ∧ j ≤ m ∧ gk2 = m - j ∧ Hid (y = IntKind.i64.wrap (cntOs (l.take i) + 1 + cntAs (o.arms.take j) : Int)) ∧ Hid (Chg [] w wq))
      case atStart => exact ⟨0, z1, rfl, rfl, by omega, rfl, Lib.hid (by rw [hz2.out, List.take_zero, cntAs]; congr 1 <;> omega), hC⟩
      case round =>
        obtain ⟨j, y, rfl, rfl, hj, rfl, hy, hC2⟩ := hrel
        obtain ⟨b0, o0, Aw, cw, Aa, ca, rfl, -, -, -, q3, zs, hS, hA⟩ := hops.out _ hC2.out
        rw [hm.out] at q3 hS
        by_cases hjt : j < m
        · obtain ⟨a, ha⟩ : ∃ a, o.arms[j]? = some a := ⟨_, List.getElem?_eq_getElem (by have := hm.out; omega)⟩
          obtain ⟨b1, o1, Ap, cp, Ab, cb, rfl, u0, u1, u2, u3, u4, -, hOp⟩ := arms_at hS hA hm.out.symm ha
          have hsa := cntAs_succ ha
          have hcl := hcb.out j a ha
          obtain ⟨x, hx⟩ : ∃ x, IntKind.i64.wrap (cntOs a.body : Int) = x := ⟨_, rfl⟩
          rw [hx] at hcl
          obtain ⟨y', hy'⟩ : ∃ y', IntKind.i64.wrap (cntOs (l.take i) + 1 + cntAs (o.arms.take (j + 1)) : Int) = y' := ⟨_, rfl⟩
          have hwr : IntKind.i64.wrap (y + x) = y' := by
            rw [hy.out, ← hx, wrap_add, ← hy', hsa]
            congr 1; omega
          obtain ⟨nb, hnb⟩ : ∃ nb, List.length a.body = nb := ⟨_, rfl⟩
          rw [hnb] at u4 hOp hcl
          have hcl2 := Lib.hid (hcl _ _ Ab cb hOp)
          replace hy' := Lib.hid hy'
          clear hsa hcl hx hnb hOp ha hS hA u0 u1 u2 u3
          go_wp2_with fail
          refine (hcl2.out).mono ?_
          rintro e w6 ⟨rfl, hC6⟩
          have hC4 := Lib.hid (hC2.out.trans hC6)
          clear hcl2 hC6
          go_wp2_with fail
          go_roundg (m - (j + 1))
          case measure => omega
          case rel => exact ⟨j + 1, y', rfl, rfl, by omega, rfl, Lib.hid hy'.out.symm, hC4⟩
        · obtain rfl : j = m := by omega
          have hy2 := hy.out
          have ht : o.arms.take j = o.arms := List.take_of_length_le (by have := hm.out; omega)
          rw [ht] at hy2
          have hy3 := Lib.hid (show y = IntKind.i64.wrap (cntOs (l.take (i + 1))) by rw [hy2, hsu.out]; congr 1 <;> omega)
          clear hy2 hS hA
          go_wp2_with fail
          go_roundg (n - (i + 1))
          case measure => omega
          case rel => exact ⟨i + 1, y, rfl, rfl, by omega, rfl, hy3, hC2⟩
    · obtain rfl : i = n := by omega
      have hz2 := hz.out
      rw [List.take_of_length_le (by have := hn.out; omega), hR.out] at hz2
      subst hz2
      go_wp2_with fail
      go_ret
      exact ⟨rfl, hC.out⟩
theorem count_all : ∀ (N : Nat) (l : List Plan.Op), cntOs l < N → ∀ (W : World) (B : Nat → Prop) (A : Option Addr) (c : Nat), OpsV W B (.slice A (List.length l) c) l → Calls Try.prog 12 #[.slice A (List.length l) c] W fun e w' => e = .returned (.int .i64 (IntKind.i64.wrap (cntOs l))) ∧ Chg [] W w' := by
  intro N
  induction N with
  | zero => intro l h; omega
  | succ N ih => intro l h W B A c hO; exact count_step l (fun b hb => ih b (by omega)) W B A c hO
theorem rcount_any (W : World) (B : Nat → Prop) (A : Option Addr) (n c : Nat) (l : List Plan.Op) (hn : n = l.length) (h : OpsV W B (.slice A n c) l) : Calls Try.prog 12 #[.slice A n c] W fun e w' => e = .returned (.int .i64 (IntKind.i64.wrap (cntOs l))) ∧ Chg [] W w' := by
  subst hn
  exact count_all (cntOs l + 1) l (by omega) W B A c h
end Rp
end Go.Proofs.Ytakcolililbkjaa
namespace Go.Proofs.Ytakcolililbkjaa
namespace Rp
open Go.RowKit Tcl Plan Pl
/-- What either `Parse` tells. -/
def Told (s : List UInt8) (l : List Plan.Op) (p q : Nat) : Prop := (planOf s = .ok l ∧ p = 0 ∧ q = 0) ∨ (planOf s = .error (p, q) ∧ l = [])
theorem told_one {s : List UInt8} {l l' : List Plan.Op} {p q p' q' : Nat} (h : Told s l p q) (h' : Told s l' p' q') : l = l' ∧ p = p' ∧ q = q' := by
  rcases h with ⟨h1, rfl, rfl⟩ | ⟨h1, rfl⟩ <;> rcases h' with ⟨h2, rfl, rfl⟩ | ⟨h2, rfl⟩
  · rw [h1] at h2; cases h2; exact ⟨rfl, rfl, rfl⟩
  · rw [h1] at h2; cases h2
  · rw [h1] at h2; cases h2
  · rw [h1] at h2; cases h2; exact ⟨rfl, rfl, rfl⟩
theorem ops_nil (w : World) (B : Nat → Prop) : OpsV w B (.slice none 0 0) [] := ⟨[], Sl.nil _ _, fun q h0 => absurd h0 (by simp), by rw [opsC]⟩
theorem told_pl {w : World} {s : List UInt8} {e : Ending} {w' : World} (h : PlEnd w s e w') : Chg [] w w' ∧ ∃ l A c p q, e = .returned (.tuple #[.slice A (List.length l) c, .int .i64 ((p : Nat) : Int), .int .i64 ((q : Nat) : Int)]) ∧ Told s l p q ∧ OpsV w' (fun q => w.heap.size ≤ q) (.slice A (List.length l) c) l := by
  obtain ⟨hC, ⟨l, A, c, h1, h2, h3⟩ | ⟨p, q, h1, h2, h3⟩⟩ := h
  · exact ⟨hC, l, A, c, 0, 0, h2, .inl ⟨h1, rfl, rfl⟩, h3⟩
  · exact ⟨hC, [], none, 0, p, q, h3, .inr ⟨h1, rfl⟩, ops_nil _ _⟩
theorem told_rpl {w : World} {s : List UInt8} {e : Ending} {w' : World} (h : RPlEnd w s e w') : Chg [] w w' ∧ ∃ l A c p q, e = .returned (.tuple #[.slice A (List.length l) c, .int .i64 ((p : Nat) : Int), .int .i64 ((q : Nat) : Int)]) ∧ Told s l p q ∧ OpsV w' (fun q => w.heap.size ≤ q) (.slice A (List.length l) c) l := by
  obtain ⟨hC, ⟨l, A, c, h1, h2, h3⟩ | ⟨p, q, h1, h2, h3⟩⟩ := h
  · exact ⟨hC, l, A, c, 0, 0, h2, .inl ⟨h1, rfl, rfl⟩, h3⟩
  · exact ⟨hC, [], none, 0, p, q, h3, .inr ⟨h1, rfl⟩, ops_nil _ _⟩
set_option maxRecDepth 100000 in
set_option maxHeartbeats 16000000 in
theorem planParses_walk (s : ByteArray) (hs : s.size ≤ maxLen) (w : World) :
    Calls Try.prog 4 #[.string s] w fun e w' => e = .returned (.bool true) ∧ Below w.heap.size w w' := by
  unfold maxLen at hs
  go_enter Try.func4, Try.ntmps4
  go_upto_region 1 with fail
  go_cut [0] (fun v0 wx => ∃ S : List UInt8, S.length ≤ 3000 ∧ v0 = .string (bstr S) ∧ Chg [] w wx)
  case first =>
    by_cases hs2 : s.size ≤ 3000
    all_goals
      go_wp2_with fail
      go_meet
      exact ⟨_, by show List.length (Array.toList _) ≤ _; rw [Array.length_toList]; show ByteArray.size _ ≤ _; first | exact hs2 | (rw [ByteArray.size_extract]; omega), congrArg _ (bstr_of rfl), Chg.refl [] w⟩
  case rest =>
  obtain ⟨S, hS, rfl, hC⟩ := hcut
  replace hC := Lib.hid hC
  have p1 := Lib.hid (fun W => plan_any W S (by omega))
  have p2 := Lib.hid (fun W => rplan_any W S (by omega))
  obtain ⟨Z, hZ⟩ : ∃ Z, bstr S = Z := ⟨_, rfl⟩
  rw [hZ] at p1 p2 ⊢
  clear hZ
  go_wp2_with fail
  refine (p1.out _).mono ?_
  rintro e w1 h1
  obtain ⟨hC1, l, A1, c1, p, q, rfl, hT1, hO1⟩ := told_pl h1
  replace hC := Lib.hid (hC.out.trans hC1)
  replace hO1 := Lib.hid hO1
  replace hT1 := Lib.hid hT1
  clear h1 hC1 p1
  go_wp2_with fail
  refine (p2.out _).mono ?_
  rintro e w2 h1
  obtain ⟨hC1, l', A2, c2, p', q', rfl, hT2, hO2⟩ := told_rpl h1
  obtain ⟨rfl, rfl, rfl⟩ := told_one hT1.out hT2
  replace hC := Lib.hid (hC.out.trans hC1)
  replace hO1 := Lib.hid (OpsV.chg hO1.out hC1 (fun _ _ _ => by simp))
  replace hO2 := Lib.hid hO2
  clear h1 hC1 p2 hT1 hT2
  obtain ⟨n, hn⟩ : ∃ n, List.length l = n := ⟨_, rfl⟩
  rw [hn] at hO1 hO2 ⊢
  replace hn := Lib.hid hn
  have hbp : ((p : Int) == (p : Int)) = true := by simp
  have hbq : ((q : Int) == (q : Int)) = true := by simp
  go_wp2_with fail
  refine (alive_any _).mono ?_
  rintro e w3 ⟨rfl, hC1⟩
  replace hC := Lib.hid (hC.out.trans hC1)
  replace hO1 := Lib.hid (OpsV.chg hO1.out hC1 (fun _ _ _ => by simp))
  replace hO2 := Lib.hid (OpsV.chg hO2.out hC1 (fun _ _ _ => by simp))
  clear hC1
  have hsm := Lib.hid (same_any w3 _ _ A1 A2 n c1 c2 l hn.out.symm hO1.out hO2.out)
  go_wp2_with fail
  refine hsm.out.mono ?_
  rintro e w4 ⟨rfl, hC1⟩
  replace hC := Lib.hid (hC.out.trans hC1)
  replace hO1 := Lib.hid (OpsV.chg hO1.out hC1 (fun _ _ _ => by simp))
  replace hO2 := Lib.hid (OpsV.chg hO2.out hC1 (fun _ _ _ => by simp))
  clear hC1 hsm
  have hc1 := Lib.hid (count_any w4 _ A1 n c1 l hn.out.symm hO1.out)
  obtain ⟨N, hN⟩ : ∃ N, IntKind.i64.wrap (cntOs l : Int) = N := ⟨_, rfl⟩
  rw [hN] at hc1
  go_wp2_with fail
  refine hc1.out.mono ?_
  rintro e w5 ⟨rfl, hC1⟩
  replace hC := Lib.hid (hC.out.trans hC1)
  replace hO2 := Lib.hid (OpsV.chg hO2.out hC1 (fun _ _ _ => by simp))
  clear hC1 hc1 hO1
  have hc2 := Lib.hid (rcount_any w5 _ A2 n c2 l hn.out.symm hO2.out)
  rw [hN] at hc2
  have hbN : (N == N) = true := by simp
  clear hN
  go_wp2_with fail
  refine hc2.out.mono ?_
  rintro e w6 ⟨rfl, hC1⟩
  replace hC := Lib.hid (hC.out.trans hC1)
  clear hC1 hc2 hO2
  go_wp2_with fail
  go_ret
  exact ⟨by first | rfl | simp, hC.out.below⟩
theorem planParses_row (v0 : Value) (d0 : Dt) (w : World) (h0 : Reads w .str v0 d0) : Calls Try.prog 4 #[v0] w fun e w' => e = .returned (.bool true) ∧ Below w.heap.size w w' := by
  cases h0 with
  | str hz => exact planParses_walk _ hz w
end Rp
end Go.Proofs.Ytakcolililbkjaa
