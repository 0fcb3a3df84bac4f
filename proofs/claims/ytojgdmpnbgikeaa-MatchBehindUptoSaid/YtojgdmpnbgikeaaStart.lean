/- The contract of Matcher.Start. Conditions: as it states. -/
import Derived.Test.YtojgdmpnbgikeaaFeed
set_option linter.unusedVariables false
set_option linter.unusedSimpArgs false
namespace Go.Proofs.Ytojgdmpnbgikeaa
open Go.RowKit PMatchFeeds YtojgdmpnbgikeaaW.PrintWords
namespace Mt
open Kmp Glob
/-- Is a branch hit by no bytes? -/
theorem from_empty {most : Nat} {x : Br} : fromOf most x [] = if fits x [] then some 0 else none := by
  unfold fromOf
  by_cases h : fits x [] = true <;> simp [List.range_succ, h]
/-- A matcher's branches, as any world in which nothing of these has changed reads them. -/
theorem MS.br {w : World} {F : Nat → Prop} {g : Nat} {l : List Br} {most : Nat} {T : List UInt8} (H : MS w F g l most T) :
    ∃ Ab cb, l.length ≤ cb ∧ ∀ w', Chg [] w w' → w'.cell? ⟨g, 0, none⟩ = some (.slice Ab l.length cb) ∧ Sl w' 2 (.slice Ab l.length cb) l.length (brCells l) := by
  obtain ⟨Ab, cb, Al, cl, gw, r, h, us, I, h1, h2, h3, h4, h5, h6, h7, h8, h9⟩ := H
  refine ⟨Ab, cb, ?_, fun w' hc => ⟨?_, (own_sl h2).chg hc (by simp)⟩⟩
  · obtain ⟨A0, c0, e0, _, h10, _⟩ := own_sl h2
    simp at e0; omega
  · have := hc.heap h1 (by simp)
    simp [World.cell?, this]
set_option maxRecDepth 100000 in
set_option maxHeartbeats 8000000 in
theorem mstart_any (w : World) (F : Nat → Prop) (g : Nat) (l : List Br) (most : Nat) (T : List UInt8) (H : MS w F g l most T) (hg : ∀ x ∈ l, x.kind = 1 → x.pat.length ≤ 1024) :
    Calls Try.prog 15 #[.pointer (some ⟨g, 0, none⟩)] w fun e w' => e = .returned (hitV (hitOf most l []) 0) ∧ Chg [] w w' := by
  have h64 : l.length ≤ 64 := by obtain ⟨Ab, cb, Al, cl, gw, r, h, us, I, h1, h2, h3, h4, h5, h6, h7, h8, h9⟩ := H; exact h9
  obtain ⟨Ab, cb, hcb, hbr⟩ := H.br
  have hC0 := (Chg.refl [] w).alloc (.cells #[.int .i64 0, .int .i64 0, .int .i64 0] 34)
  have k0 := (hbr _ hC0).1
  have hb2 := Lib.hid (blk_new w (.cells #[.int .i64 0, .int .i64 0, .int .i64 0] 34))
  replace hbr := Lib.hid hbr
  replace hC0 := Lib.hid hC0
  clear H
  go_enter Try.func15, Try.ntmps15
  go_wp2_with fail
  generalize w.alloc (.cells #[.int .i64 0, .int .i64 0, .int .i64 0] 34) = w1 at hC0 hb2 k0 ⊢
  clear k0
  go_loopw [15] (fun v15 wr => ∃ k : Nat, v15 = .int .i64 k ∧ k ≤ l.length ∧ Hid (Upto most l [] k) ∧ Hid (Chg [] w1 wr)) (fun v15 _ => l.length - (intOf v15).toNat)
  case atStart => exact ⟨0, rfl, by omega, Lib.hid (fun j x hj => by omega), Lib.hid (Chg.refl _ _)⟩
  case round =>
    obtain ⟨k, rfl, hk, hU, hC⟩ := hrel
    by_cases hlt : k < l.length
    · obtain ⟨x, hx⟩ : ∃ x, l[k]? = some x := ⟨_, List.getElem?_eq_getElem hlt⟩
      have hgx := hg x (List.mem_of_getElem? hx)
      have hCr := hC0.out.trans hC.out
      obtain ⟨b, o, rfl, x0, x1⟩ := br_at (hbr.out wr hCr).2 hx
      replace hx := Lib.hid hx
      have hgl := hgx
      clear hgx
      by_cases hz0 : x.kind = 0
      · rw [hz0] at x0
        by_cases hpe : x.pat = []
        · have hfit : fits x [] = true := by rw [fits, if_pos hz0, hpe]; rfl
          have hhit := Lib.hid (hit_some hU.out hx.out (by rw [from_empty, hfit]; rfl))
          rw [hpe] at x1
          have hbq := (hC.out.alloc (.cells #[.int .i64 0, .string (bs [])] 45)).heap hb2.out (by simp)
          rw [show bs [] = (⟨#[]⟩ : ByteArray) from rfl] at x1 hbq
          have d0 : (wr.alloc (.cells #[.int .i64 0, .string ⟨#[]⟩] 45)).cell? ⟨w.heap.size, 0, none⟩ = some (.int .i64 0) := by simp [World.cell?, hbq]
          have d1 : (wr.alloc (.cells #[.int .i64 0, .string ⟨#[]⟩] 45)).cell? ⟨w.heap.size, 1, none⟩ = some (.int .i64 0) := by simp [World.cell?, hbq]
          have d2 : (wr.alloc (.cells #[.int .i64 0, .string ⟨#[]⟩] 45)).cell? ⟨w.heap.size, 2, none⟩ = some (.int .i64 0) := by simp [World.cell?, hbq]
          have f0 : (wr.alloc (.cells #[.int .i64 0, .string ⟨#[]⟩] 45)).frozen? ⟨w.heap.size, 0, none⟩ = false := by simp [World.frozen?, hbq]
          have f1 : (wr.alloc (.cells #[.int .i64 0, .string ⟨#[]⟩] 45)).frozen? ⟨w.heap.size, 1, none⟩ = false := by simp [World.frozen?, hbq]
          have f2 : (wr.alloc (.cells #[.int .i64 0, .string ⟨#[]⟩] 45)).frozen? ⟨w.heap.size, 2, none⟩ = false := by simp [World.frozen?, hbq]
          replace hbq := Lib.hid hbq
          clear hfit hpe hz0 hgl
          go_wp2_with fail
          have hfin : ((((wr.alloc (.cells #[.int .i64 0, .string ⟨#[]⟩] 45)).setCell ⟨w.heap.size, 0, none⟩ (.int .i64 (k : Int))).setCell ⟨w.heap.size, 1, none⟩ (.int .i64 0)).setCell ⟨w.heap.size, 2, none⟩ (.int .i64 0)).heap[w.heap.size]? = some (.cells #[.int .i64 (k : Int), .int .i64 0, .int .i64 0] 34 (0, 0)) := by
            have := blk_set (blk_set (blk_set hbq.out 0 (.int .i64 (k : Int))) 1 (.int .i64 0)) 2 (.int .i64 0)
            simpa using this
          have hCf : Chg [] w ((((wr.alloc (.cells #[.int .i64 0, .string ⟨#[]⟩] 45)).setCell ⟨w.heap.size, 0, none⟩ (.int .i64 (k : Int))).setCell ⟨w.heap.size, 1, none⟩ (.int .i64 0)).setCell ⟨w.heap.size, 2, none⟩ (.int .i64 0)) := (((hCr.alloc _).setCell (.inr (Nat.le_refl _)) _).setCell (.inr (Nat.le_refl _)) _).setCell (.inr (Nat.le_refl _)) _
          generalize ((((wr.alloc (.cells #[.int .i64 0, .string ⟨#[]⟩] 45)).setCell ⟨w.heap.size, 0, none⟩ (.int .i64 (k : Int))).setCell ⟨w.heap.size, 1, none⟩ (.int .i64 0)).setCell ⟨w.heap.size, 2, none⟩ (.int .i64 0)) = w' at hfin hCf ⊢
          refine bodyPost_ret (v := .tuple #[.agg #[.int .i64 (k : Int), .int .i64 0, .int .i64 0], .bool true]) ?_ rfl ⟨?_, hCf⟩
          · exact results_cell2 rfl _ _ _ 34 _ (0, 0) _ _ rfl hfin Try.underlying34 rfl (by kernel_rfl) rfl
          · rw [hhit.out]; rfl

        · have hfit : fits x [] = false := by rw [fits, if_pos hz0, beq_eq_false_iff_ne]; exact fun e => hpe e.symm
          have hU1 := Lib.hid (show Upto most l [] (k + 1) from fun j y hj hy => by
            rcases Nat.lt_or_ge j k with h | h
            · exact hU.out j y h hy
            · obtain rfl : j = k := by omega
              rw [hx.out] at hy; cases hy
              rw [from_empty, hfit]; rfl)
          have e1 : ¬ (bs x.pat).toList = [] := by rw [ByteArray.toList_eq]; simpa [bs] using hpe
          have e0 : (bs x.pat).toList.isEmpty = false := by rw [ByteArray.toList_eq]; simpa [bs] using hpe
          clear hfit hpe hz0 hgl
          go_wp2_with fail
          go_roundw
          case measure => simp [intOf]; omega
          case rel => exact ⟨k + 1, by go_num, by omega, hU1, Lib.hid (hC.out.alloc _)⟩

      · have hd0 : (x.kind == 0) = false := by simpa using hz0
        by_cases hz1 : x.kind = 1
        · have hgl := hgl hz1
          rw [hz1] at x0 hd0
          have hmo : matchOf x.pat [] = fits x [] := by
            rw [fits, if_neg hz0, if_pos hz1, matchOf, if_neg (by omega)]; cases parse x.pat <;> rfl
          have hma := Lib.hid (fun W => match_any (bs x.pat) ⟨#[]⟩ (by rw [bs_size]; omega) (by decide) W)
          have hbl : (bs x.pat).data.toList = x.pat := rfl
          obtain ⟨bf, hfit⟩ : ∃ bf, fits x [] = bf := ⟨_, rfl⟩
          have hmo2 : matchOf (bs x.pat).data.toList (⟨#[]⟩ : ByteArray).data.toList = bf := by rw [hbl, ← hfit]; exact hmo
          replace hmo2 := Lib.hid hmo2
          obtain ⟨eo, heo⟩ : ∃ eo, errOf (bs x.pat).data.toList = eo := ⟨_, rfl⟩
          replace heo := Lib.hid heo
          replace hfit := Lib.hid hfit
          clear hz0 hgl hmo hbl hd0 hz1
          go_wp2_with fail
          refine (hma.out _).mono ?_
          rintro e w5 ⟨rfl, hC5⟩
          rw [hmo2.out, heo.out]
          have hC15 := (hC.out.alloc (.cells #[.int .i64 1, .string (bs x.pat)] 45)).trans hC5
          have hbq := hC15.heap hb2.out (by simp)
          have d0 : w5.cell? ⟨w.heap.size, 0, none⟩ = some (.int .i64 0) := by simp [World.cell?, hbq]
          have d1 : w5.cell? ⟨w.heap.size, 1, none⟩ = some (.int .i64 0) := by simp [World.cell?, hbq]
          have d2 : w5.cell? ⟨w.heap.size, 2, none⟩ = some (.int .i64 0) := by simp [World.cell?, hbq]
          have f0 : w5.frozen? ⟨w.heap.size, 0, none⟩ = false := by simp [World.frozen?, hbq]
          have f1 : w5.frozen? ⟨w.heap.size, 1, none⟩ = false := by simp [World.frozen?, hbq]
          have f2 : w5.frozen? ⟨w.heap.size, 2, none⟩ = false := by simp [World.frozen?, hbq]
          replace hbq := Lib.hid hbq
          replace hC15 := Lib.hid hC15
          clear hC5 hma
          cases bf
          · have hfit := hfit.out
            have hU1 := Lib.hid (show Upto most l [] (k + 1) from fun j y hj hy => by
              rcases Nat.lt_or_ge j k with h | h
              · exact hU.out j y h hy
              · obtain rfl : j = k := by omega
                rw [hx.out] at hy; cases hy
                rw [from_empty, hfit]; rfl)
            clear hfit
            go_wp2_with fail
            go_roundw
            case measure => simp [intOf]; omega
            case rel => exact ⟨k + 1, by go_num, by omega, hU1, Lib.hid (hC15.out)⟩

          · have hhit := Lib.hid (hit_some hU.out hx.out (by rw [from_empty, hfit.out]; rfl))
            go_wp2_with fail
            have hfin : (((w5.setCell ⟨w.heap.size, 0, none⟩ (.int .i64 (k : Int))).setCell ⟨w.heap.size, 1, none⟩ (.int .i64 0)).setCell ⟨w.heap.size, 2, none⟩ (.int .i64 0)).heap[w.heap.size]? = some (.cells #[.int .i64 (k : Int), .int .i64 0, .int .i64 0] 34 (0, 0)) := by
              have := blk_set (blk_set (blk_set hbq.out 0 (.int .i64 (k : Int))) 1 (.int .i64 0)) 2 (.int .i64 0)
              simpa using this
            have hCf : Chg [] w (((w5.setCell ⟨w.heap.size, 0, none⟩ (.int .i64 (k : Int))).setCell ⟨w.heap.size, 1, none⟩ (.int .i64 0)).setCell ⟨w.heap.size, 2, none⟩ (.int .i64 0)) := (((hC0.out.trans hC15.out).setCell (.inr (Nat.le_refl _)) _).setCell (.inr (Nat.le_refl _)) _).setCell (.inr (Nat.le_refl _)) _
            generalize (((w5.setCell ⟨w.heap.size, 0, none⟩ (.int .i64 (k : Int))).setCell ⟨w.heap.size, 1, none⟩ (.int .i64 0)).setCell ⟨w.heap.size, 2, none⟩ (.int .i64 0)) = w' at hfin hCf ⊢
            refine bodyPost_ret (v := .tuple #[.agg #[.int .i64 (k : Int), .int .i64 0, .int .i64 0], .bool true]) ?_ rfl ⟨?_, hCf⟩
            · exact results_cell2 rfl _ _ _ 34 _ (0, 0) _ _ rfl hfin Try.underlying34 rfl (by kernel_rfl) rfl
            · rw [hhit.out]; rfl

        · have hfit : fits x [] = false := by rw [fits, if_neg hz0, if_neg hz1]
          have hU1 := Lib.hid (show Upto most l [] (k + 1) from fun j y hj hy => by
            rcases Nat.lt_or_ge j k with h | h
            · exact hU.out j y h hy
            · obtain rfl : j = k := by omega
              rw [hx.out] at hy; cases hy
              rw [from_empty, hfit]; rfl)
          have hd1 : (x.kind == 1) = false := by simpa using hz1
          clear hfit hz0 hz1 hgl
          go_wp2_with fail
          go_roundw
          case measure => simp [intOf]; omega
          case rel => exact ⟨k + 1, by go_num, by omega, hU1, Lib.hid (hC.out.alloc _)⟩
    · obtain rfl : k = l.length := by omega
      have hhit := Lib.hid (hit_none hU.out)
      have hbq := hC.out.heap hb2.out (by simp)
      have d0 : wr.cell? ⟨w.heap.size, 0, none⟩ = some (.int .i64 0) := by simp [World.cell?, hbq]
      have d1 : wr.cell? ⟨w.heap.size, 1, none⟩ = some (.int .i64 0) := by simp [World.cell?, hbq]
      have d2 : wr.cell? ⟨w.heap.size, 2, none⟩ = some (.int .i64 0) := by simp [World.cell?, hbq]
      have f0 : wr.frozen? ⟨w.heap.size, 0, none⟩ = false := by simp [World.frozen?, hbq]
      have f1 : wr.frozen? ⟨w.heap.size, 1, none⟩ = false := by simp [World.frozen?, hbq]
      have f2 : wr.frozen? ⟨w.heap.size, 2, none⟩ = false := by simp [World.frozen?, hbq]
      replace hbq := Lib.hid hbq
      go_wp2_with fail
      have hfin : (((wr.setCell ⟨w.heap.size, 0, none⟩ (.int .i64 0)).setCell ⟨w.heap.size, 1, none⟩ (.int .i64 0)).setCell ⟨w.heap.size, 2, none⟩ (.int .i64 0)).heap[w.heap.size]? = some (.cells #[.int .i64 0, .int .i64 0, .int .i64 0] 34 (0, 0)) := by
        have := blk_set (blk_set (blk_set hbq.out 0 (.int .i64 0)) 1 (.int .i64 0)) 2 (.int .i64 0)
        simpa using this
      have hCf : Chg [] w (((wr.setCell ⟨w.heap.size, 0, none⟩ (.int .i64 0)).setCell ⟨w.heap.size, 1, none⟩ (.int .i64 0)).setCell ⟨w.heap.size, 2, none⟩ (.int .i64 0)) := (((hC0.out.trans hC.out).setCell (.inr (Nat.le_refl _)) _).setCell (.inr (Nat.le_refl _)) _).setCell (.inr (Nat.le_refl _)) _
      generalize (((wr.setCell ⟨w.heap.size, 0, none⟩ (.int .i64 0)).setCell ⟨w.heap.size, 1, none⟩ (.int .i64 0)).setCell ⟨w.heap.size, 2, none⟩ (.int .i64 0)) = w' at hfin hCf ⊢
      refine bodyPost_ret (v := .tuple #[.agg #[.int .i64 0, .int .i64 0, .int .i64 0], .bool false]) ?_ rfl ⟨?_, hCf⟩
      · exact results_cell2 rfl _ _ _ 34 _ (0, 0) _ _ rfl hfin Try.underlying34 rfl (by kernel_rfl) rfl
      · rw [hhit.out]; rfl
end Mt
end Go.Proofs.Ytojgdmpnbgikeaa
