/- The contract of match.New. Conditions: as it states. -/
import Derived.Test.YtojgdmpnbgikeaaReset
set_option linter.unusedVariables false
set_option linter.unusedSimpArgs false
namespace Go.Proofs.Ytojgdmpnbgikeaa
open Go.RowKit PMatchFeeds YtojgdmpnbgikeaaW.PrintWords
namespace Mt
open Kmp Glob
theorem Try.info_branch : (Try.prog.info? 45).map (fun i => (i.zero, i.size, i.bytes)) = some (some (.agg #[.int .i64 0, .string ByteArray.empty]), 2, 24) := by kernel_rfl
theorem things_long (s : ByteArray) (h : 1024 < s.size) (hs : s.size ≤ 9223372036854775807) (w : World) : Calls Try.prog 35 #[.string s] w fun e w' => e = .returned (.tuple #[.slice none 0 0, .int .i64 6]) ∧ w = w' := by
  go_enter Try.func35, Try.ntmps35
  go_wp2_with fail
  go_ret2
  exact ⟨rfl, rfl⟩
theorem check_all (l : List UInt8) (hs : l.length ≤ 9223372036854775807) (w : World) : Calls Try.prog 22 #[.string (bs l)] w fun e w' => e = .returned (.int .i64 (errOf l)) ∧ Chg [] w w' := by
  by_cases h : l.length ≤ 1024
  · exact check_any (bs l) (by rw [bs_size]; omega) w
  · have e1 : errOf l = 6 := errOf_long (by omega)
    have hz : (bs l).size = l.length := rfl
    have ht := Lib.hid (fun W => things_long (bs l) (by rw [bs_size]; omega) (by rw [bs_size]; omega) W)
    rw [e1]
    go_enter Try.func22, Try.ntmps22
    go_wp2_with fail
    refine (ht.out _).mono ?_
    rintro e w' ⟨rfl, rfl⟩
    go_wp2_with fail
    go_ret
    exact ⟨rfl, Chg.refl _ _⟩
/-- What is wrong with branches: 0, nothing. -/
def brErr : List Br → Int
  | [] => 0
  | x :: l => if x.kind < 0 ∨ 3 < x.kind then 2 else if x.kind = 1 ∧ errOf x.pat ≠ 0 then errOf x.pat else brErr l
def newErr (most : Int) (l : List Br) : Int := if ¬ (1 ≤ most ∧ most ≤ 1048576) then 3 else if 64 < l.length then 10 else brErr l
theorem br_bad {l : List Br} {k : Nat} {x : Br} {e : Int} (h : brErr l = brErr (l.drop k)) (hx : l[k]? = some x) (he : (x.kind < 0 ∨ 3 < x.kind) ∧ e = 2 ∨ ¬ (x.kind < 0 ∨ 3 < x.kind) ∧ x.kind = 1 ∧ errOf x.pat = e ∧ e ≠ 0) : brErr l = e := by
  have hk := (List.getElem?_eq_some_iff.1 hx).1
  have hxe := (List.getElem?_eq_some_iff.1 hx).2
  rw [h, List.drop_eq_getElem_cons hk, hxe, brErr]
  rcases he with ⟨h1, rfl⟩ | ⟨h1, h2, h3, h4⟩
  · rw [if_pos h1]
  · rw [if_neg h1, if_pos ⟨h2, by rw [h3]; exact h4⟩, h3]
theorem br_next {l : List Br} {k : Nat} {x : Br} (h : brErr l = brErr (l.drop k)) (hx : l[k]? = some x) (h1 : ¬ (x.kind < 0 ∨ 3 < x.kind)) (h2 : x.kind ≠ 1 ∨ errOf x.pat = 0) : brErr l = brErr (l.drop (k + 1)) := by
  have hk := (List.getElem?_eq_some_iff.1 hx).1
  have hxe := (List.getElem?_eq_some_iff.1 hx).2
  rw [h, List.drop_eq_getElem_cons hk, hxe, brErr, if_neg h1, if_neg (by rcases h2 with h2 | h2 <;> simp [h2])]
theorem br_good {l : List Br} (h : brErr l = 0) : ∀ x ∈ l, 0 ≤ x.kind ∧ x.kind ≤ 3 ∧ (x.kind = 1 → x.pat.length ≤ 1024 ∧ ∃ ths, parse x.pat = some ths) := by
  induction l with
  | nil => simp
  | cons y l ih =>
    rw [brErr] at h
    by_cases h1 : y.kind < 0 ∨ 3 < y.kind
    · rw [if_pos h1] at h; cases h
    · rw [if_neg h1] at h
      by_cases h2 : y.kind = 1 ∧ errOf y.pat ≠ 0
      · rw [if_pos h2] at h; exact absurd h h2.2
      · rw [if_neg h2] at h
        intro x hx
        rcases List.mem_cons.1 hx with rfl | hx
        · refine ⟨by omega, by omega, fun h3 => ?_⟩
          have : errOf x.pat = 0 := by
            rcases Decidable.em (errOf x.pat = 0) with h4 | h4
            · exact h4
            · exact absurd ⟨h3, h4⟩ h2
          exact errOf_zero this
        · exact ih h x hx
def NewEnd (w : World) (most : Int) (l : List Br) (e : Ending) (w' : World) : Prop :=
  Chg [] w w' ∧ ((newErr most l ≠ 0 ∧ e = .returned (.tuple #[.pointer none, .int .i64 (newErr most l)])) ∨ (newErr most l = 0 ∧ GoodBr l ∧ ∃ g F, e = .returned (.tuple #[.pointer (some ⟨g, 0, none⟩), .int .i64 0]) ∧ MS w' F g l most.toNat [] ∧ ∀ k, F k → w.heap.size ≤ k))
set_option maxRecDepth 100000 in
set_option maxHeartbeats 16000000 in
theorem mnew_any (w : World) (most : Int) (l : List Br) (A : Option Addr) (n c : Nat) (hn : l.length = n) (hS : Sl w 2 (.slice A n c) n (brCells l)) (hl : ∀ x ∈ l, x.pat.length ≤ 9223372036854775807) :
    Calls Try.prog 11 #[.int .i64 most, .slice A n c] w (NewEnd w most l) := by
  subst hn
  have hm9 : l.length ≤ 9223372036854775807 := by obtain ⟨A0, c0, e0, _, h1, h2, _⟩ := hS; simp at e0; unfold maxLen at h2; omega
  by_cases hm : 1 ≤ most ∧ most ≤ 1048576
  rotate_left
  · have he : newErr most l = 3 := if_pos hm
    have hw := Lib.hid (fun W => new_bad most W hm)
    have hend : NewEnd w most l (.returned (.tuple #[.pointer none, .int .i64 3])) w := ⟨Chg.refl _ _, .inl ⟨by rw [he]; decide, by rw [he]⟩⟩
    replace hend := Lib.hid hend
    clear hm he
    go_enter Try.func11, Try.ntmps11
    go_wp2_with fail
    refine (hw.out _).mono ?_
    rintro e w' ⟨rfl, rfl⟩
    go_wp2_with fail
    go_ret2
    exact hend.out
  have hw := Lib.hid (fun W => new_good most W hm.1 hm.2)
  by_cases h64 : 64 < l.length
  · have he : newErr most l = 10 := by rw [newErr, if_neg (by omega), if_pos h64]
    have hend : ∀ w', Chg [] w w' → NewEnd w most l (.returned (.tuple #[.pointer none, .int .i64 10])) w' := fun w' hc => ⟨hc, .inl ⟨by rw [he]; decide, by rw [he]⟩⟩
    replace hend := Lib.hid hend
    have hd : decide ((64 : Int) < (l.length : Int)) = true := by simp; omega
    clear hm he
    go_enter Try.func11, Try.ntmps11
    go_wp2_with fail
    refine (hw.out _).mono ?_
    rintro e w' ⟨rfl, -, hC, -⟩
    replace hC := Lib.hid hC
    go_wp2_with fail
    go_ret2
    exact hend.out _ hC.out
  have hne : newErr most l = brErr l := by rw [newErr, if_neg (by omega), if_neg h64]
  obtain ⟨M, hM⟩ : ∃ M : Nat, most = M := ⟨most.toNat, by omega⟩
  subst hM
  replace hne := Lib.hid hne
  replace hS := Lib.hid hS
  go_enter Try.func11, Try.ntmps11
  go_wp2_with fail
  refine (hw.out _).mono ?_
  rintro e w1 ⟨rfl, hW, hC1, hs1⟩
  have hS1 := hS.out.chg hC1 (by simp)
  have hown : (w1.alloc (.cells #[] 45)).ownsRow w1.heap.size 45 2 (.slice (some ⟨w1.heap.size, 0, none⟩) 0 0) 0 [] := World.ownsRow_made w1 #[] 0 (Nat.le_refl _) (by simp) (by simp)
  have hS2 := hS1.chg ((Chg.refl [] w1).alloc (.cells #[] 45)) (by simp)
  replace hC1 := Lib.hid hC1
  replace hW := Lib.hid hW
  clear hw hS1
  have hd : decide ((64 : Int) < (l.length : Int)) = false := by simp; omega
  go_wp2_with (refine wpList_append_sl rfl (.tmp 25) (.tmp 26) 23 rfl w1.heap.size 45 (.agg #[.int .i64 0, .string ByteArray.empty]) 2 24 Try.underlying23 Try.info_branch rfl (by decide) _ 0 [] rfl hown _ l.length (brCells l) rfl hS2 (br_one l) l.length (by omega) (by omega) (by decide) (by simp) ?_)
  intro Ab cb w2 hO hC hat
  replace hO : w2.ownsRow w1.heap.size 45 2 (.slice Ab l.length cb) l.length (brCells l) := by simpa using hO
  have hC2 : Chg [] w1 w2 := ((Chg.refl [] w1).alloc (.cells #[] 45)).then hC (fun x hx => by right; simp [Value.ownBlock] at hx; omega)
  have s1 := hC1.out.size
  have s2 := hC2.size
  have hlO := Lib.hid hO.lt
  have hC3 := hC2.alloc (.cells #[.slice Ab l.length cb, .int .i64 M, .slice none 0 0, .pointer (some ⟨w.heap.size, 0, none⟩), .bool false] 56)
  have hg3 := blk_new w2 (.cells #[.slice Ab l.length cb, .int .i64 M, .slice none 0 0, .pointer (some ⟨w.heap.size, 0, none⟩), .bool false] 56)
  have hO3 := own_chg (own_weaken hO (Nat.zero_le _)) ((Chg.refl [] w2).alloc (.cells #[.slice Ab l.length cb, .int .i64 M, .slice none 0 0, .pointer (some ⟨w.heap.size, 0, none⟩), .bool false] 56)) (by simp)
  have hW3 := hW.out.chg hC3 (by simp) (by simp)
  have hC03 := hC1.out.trans hC3
  have hszg : ∃ g, g = w2.heap.size := ⟨_, rfl⟩
  obtain ⟨g, hge⟩ := hszg
  rw [← hge] at hg3
  have hgs : w1.heap.size ≤ g := by omega
  replace hC3 := Lib.hid hC3
  replace hg3 := Lib.hid hg3
  replace hO3 := Lib.hid hO3
  replace hW3 := Lib.hid hW3
  replace hC03 := Lib.hid hC03
  clear hO hC hat hC2 hW hown hS2
  go_wp2_with fail
  rw [← hge]
  generalize w2.alloc (.cells #[.slice Ab l.length cb, .int .i64 M, .slice none 0 0, .pointer (some ⟨w.heap.size, 0, none⟩), .bool false] 56) = w3 at hC3 hg3 hO3 hW3 hC03 ⊢
  replace hge := Lib.hid hge
  go_loopw [34] (fun v34 wr => ∃ k : Nat, v34 = .int .i64 k ∧ k ≤ l.length ∧ Hid (brErr l = brErr (l.drop k)) ∧ Hid (Chg [g] w3 wr) ∧ Hid (wr.heap[g]? = some (.cells #[.slice Ab l.length cb, .int .i64 M, .slice none 0 0, .pointer (some ⟨w.heap.size, 0, none⟩), .bool ((l.take k).any fun x => x.kind == 1)] 56 (0, 0)))) (fun v34 _ => l.length - (intOf v34).toNat)
  case atStart => exact ⟨0, rfl, by omega, (show _ = _ from rfl), Lib.hid (Chg.refl _ _), hg3⟩
  case round =>
    obtain ⟨k, rfl, hk, hE, hD, hG⟩ := hrel
    have hCr := Lib.hid (hC03.out.then hD.out (fun x hx => by right; simp at hx; omega))
    by_cases hlt : k < l.length
    · obtain ⟨x, hx⟩ : ∃ x, l[k]? = some x := ⟨_, List.getElem?_eq_getElem hlt⟩
      have hxl := hl x (List.mem_of_getElem? hx)
      obtain ⟨b, o, rfl, x0, x1⟩ := br_at (hS.out.chg hCr.out (by simp)) hx
      have htk : (l.take (k + 1)).any (fun x => x.kind == 1) = ((l.take k).any (fun x => x.kind == 1) || (x.kind == 1)) := by
        rw [List.take_succ_eq_append_getElem hlt, (List.getElem?_eq_some_iff.1 hx).2]; simp
      obtain ⟨gb, hgb⟩ : ∃ gb, (l.take k).any (fun x => x.kind == 1) = gb := ⟨_, rfl⟩
      rw [hgb] at hG htk
      replace htk := Lib.hid htk
      replace hx := Lib.hid hx
      clear hgb
      have hend : ∀ (e : Int) (w' : World), e ≠ 0 → brErr l = e → Chg [] w w' → NewEnd w M l (.returned (.tuple #[.pointer none, .int .i64 e])) w' := fun e w' h0 he hc => ⟨hc, .inl ⟨by rw [hne.out, he]; exact h0, by rw [hne.out, he]⟩⟩
      replace hend := Lib.hid hend
      by_cases hb : x.kind < 0 ∨ 3 < x.kind
      · have he := Lib.hid (br_bad hE.out hx.out (.inl ⟨hb, rfl⟩))
        have hd1 : decide (x.kind < 0) = true ∨ (decide (x.kind < 0) = false ∧ decide (3 < x.kind) = true) := by
          simp only [decide_eq_true_eq, decide_eq_false_iff_not]; omega
        clear hb
        rcases hd1 with hd1 | ⟨hd1, hd2⟩
        all_goals
          go_wp2_with fail
          go_ret2
          exact hend.out 2 _ (by decide) he.out (hCr.out.alloc _)
      · have hd1 : decide (x.kind < 0) = false := by simp; omega
        have hd2 : decide (3 < x.kind) = false := by simp; omega
        by_cases h1 : x.kind = 1
        · rw [h1] at x0 hd1 hd2
          have hck := Lib.hid (fun W => check_all x.pat hxl W)
          obtain ⟨ev, hev⟩ : ∃ ev, errOf x.pat = ev := ⟨_, rfl⟩
          rw [hev] at hck
          by_cases he0 : ev = 0
          · have hnx := Lib.hid (br_next hE.out hx.out hb (.inr (hev.trans he0)))
            subst he0
            replace hev := Lib.hid hev
            have htk1 : (l.take (k + 1)).any (fun x => x.kind == 1) = true := by rw [htk.out, h1]; simp
            replace htk1 := Lib.hid htk1
            clear hb h1 hd1 hd2
            go_wp2_with fail
            refine (hck.out _).mono ?_
            rintro e w5 ⟨rfl, hC5⟩
            have hC15 := ((Chg.refl [] wr).alloc (.cells #[.int .i64 1, .string (bs x.pat)] 45)).trans hC5
            have hG5 := hC15.heap hG.out (by simp)
            have q4 : w5.cell? ⟨g, 4, none⟩ = some (.bool gb) := by simp [World.cell?, hG5]
            have f4 : w5.frozen? ⟨g, 4, none⟩ = false := by simp [World.frozen?, hG5]
            replace hC15 := Lib.hid hC15
            replace hG5 := Lib.hid hG5
            clear hC5 hck
            go_wp2_with fail
            go_roundw
            case measure => simp [intOf]; omega
            case rel =>
              refine ⟨k + 1, by go_num, by omega, hnx, Lib.hid ((hD.out.trans (hC15.out.mono (by simp))).setCell (.inl (by simp)) _), Lib.hid ?_⟩
              rw [htk1.out]
              have := blk_set hG5.out 4 (.bool true)
              simpa using this
          · have he := Lib.hid (br_bad hE.out hx.out (.inr ⟨hb, h1, hev, he0⟩))
            have hd3 : (ev != 0) = true := by simpa using he0
            clear hb h1 hd1 hd2
            go_wp2_with fail
            refine (hck.out _).mono ?_
            rintro e w5 ⟨rfl, hC5⟩
            have hC15 := Lib.hid (((hCr.out.alloc (.cells #[.int .i64 1, .string (bs x.pat)] 45))).trans hC5)
            clear hC5 hck
            replace hev := Lib.hid hev
            replace he0 := Lib.hid he0
            go_wp2_with fail
            go_ret2
            exact hend.out ev _ he0.out he.out hC15.out
        · have hd3 : (x.kind != 1) = true := by simpa using h1
          have hnx := Lib.hid (br_next hE.out hx.out hb (.inl h1))
          have htk1 : (l.take (k + 1)).any (fun x => x.kind == 1) = gb := by rw [htk.out]; simp [h1]
          replace htk1 := Lib.hid htk1
          clear hb h1
          go_wp2_with fail
          go_roundw
          case measure => simp [intOf]; omega
          case rel => exact ⟨k + 1, by go_num, by omega, hnx, Lib.hid (hD.out.alloc _), Lib.hid (by rw [htk1.out]; exact blk_alloc hG.out _)⟩
    · obtain rfl : k = l.length := by omega
      have he0 : brErr l = 0 := by rw [hE.out, List.drop_length]; rfl
      have hgood : GoodBr l := ⟨by omega, br_good he0⟩
      have hGr := hG.out
      rw [List.take_length] at hGr
      have hsr := hD.out.size
      have hs3' := hC3.out.size
      have hpre : MPre wr (fun q => w.heap.size ≤ q ∧ q < wr.heap.size) g l M := by
        refine ⟨Ab, cb, none, 0, 0, w.heap.size, none, 0, 0, [], [], hGr, own_chg hO3.out hD.out (fun q hq => by have := hlO.out q hq; have := hge.out; simp; omega), hW3.out.chg hD.out (by simp; omega) (by simp), World.ownsRow_nil _ _ _ _, fun q hq => ?_, fun q hq => hq.2, hgood⟩
        have hgl := lt_heap hGr
        rcases hq with e | e | e | e | e
        · subst e; exact ⟨by omega, hgl⟩
        · subst e; exact ⟨Nat.le_refl _, by omega⟩
        · cases e
        · have := hlO.out q e; have := hge.out; exact ⟨by omega, by omega⟩
        · simp [Value.ownBlock] at e
      have hrs := Lib.hid (reset_any wr _ g l M hpre)
      have hgood' := Lib.hid hgood
      replace he0 := Lib.hid he0
      clear hpre hgood hGr
      go_wp2_with fail
      refine (hrs.out).mono ?_
      rintro e w5 ⟨rfl, F', hMS, hF', S, hCS, hS'⟩
      have hC5 := Lib.hid (hCr.out.then hCS (fun q hq => .inr (hS' q hq).1))
      have hend : NewEnd w M l (.returned (.tuple #[.pointer (some ⟨g, 0, none⟩), .int .i64 0])) w5 := by
        refine ⟨hC5.out, .inr ⟨by rw [hne.out, he0.out], hgood'.out, g, F', rfl, by rw [Int.toNat_natCast]; exact hMS, fun q hq => ?_⟩⟩
        rcases hF' q hq with e | e
        · exact e.1
        · omega
      replace hend := Lib.hid hend
      clear hMS hF' hCS hS' hrs
      go_wp2_with fail
      go_ret2
      exact hend.out
end Mt
end Go.Proofs.Ytojgdmpnbgikeaa
