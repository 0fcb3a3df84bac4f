/- Contracts of package window: New, Total, Held, Cut, Bytes (and slices.Clone at bytes). Conditions: as each states. -/
import Derived.Test.YtojgdmpnbgikeaaProg
import Derived.Test.YtojgdmpnbgikeaaLib
import Derived.ChangeAlike
import Derived.RegionTactic
import Derived.Deep.QuietTactic
import Derived.BigQuiet
import Derived.Deep.RegionLaw
import Derived.StillTailTactics
import Derived.Deep.RegionWith
import Derived.Lib.Hide
import Derived.Outline
set_option linter.unusedVariables false
set_option linter.unusedSimpArgs false
namespace Go.Proofs.Ytojgdmpnbgikeaa
open Go.RowKit

theorem Try.info_u8 : (Try.prog.info? 5).map (fun i => (i.zero, i.size, i.bytes)) = some (some (.int .u8 0), 1, 1) := by kernel_rfl

theorem clone_nil (w : World) :
    Calls Try.prog 40 #[.slice none 0 0] w fun e w' => e = .returned (.slice none 0 0) ∧ w = w' := by
  have hs := fun (w : World) => Lib.run_eql_slice_nil (P := Try.prog) w 22 5 none 0 0 0 0 Try.underlying22
  go_enter Try.func40, Try.ntmps40
  go_wp2
  go_ret
  exact ⟨rfl, rfl⟩
def CloneEnd (w : World) (xs : List Int) (e : Ending) (w' : World) : Prop :=
  ∃ A c, e = .returned (.slice A xs.length c) ∧ w'.ownsRow w.heap.size 5 1 (.slice A xs.length c) xs.length (cellsOf .u8 xs) ∧ Chg [] w w'
theorem clone_some (w : World) (a : Addr) (n c : Nat) (xs : List Int) (h : Sl w 1 (.slice (some a) n c) n (cellsOf .u8 xs)) (hn : n ≤ 140737488351232) :
    Calls Try.prog 40 #[.slice (some a) n c] w (CloneEnd w xs) := by
  obtain ⟨i0, hi, hz0, hz1, hz2⟩ := info_parts Try.info_u8
  have hl : xs.length = n := by have := h.len; simpa using this
  obtain ⟨A', c', e, _, _, _, _, hr⟩ := h
  obtain ⟨rfl, rfl⟩ : some a = A' ∧ c = c' := by simpa using e
  have hr2 : ∀ j u, (cellsOf .u8 xs)[j]? = some u → w.cell? (a.add j) = some u := by
    intro j u hu
    obtain ⟨ad, e, hr⟩ := hr (by have := (List.getElem?_eq_some_iff.1 hu).1; omega)
    simp only [Option.some.injEq] at e; subst e
    exact hr j u hu
  clear hr
  have hs := fun (w : World) => Lib.run_eql_slice_nil (P := Try.prog) w 22 5 (some a) n c 0 0 Try.underlying22
  have hown : (w.alloc (.cells #[] 5)).ownsRow w.heap.size 5 1 (.slice (some ⟨w.heap.size, 0, none⟩) 0 0) 0 [] := World.ownsRow_made w #[] 0 (Nat.le_refl _) (by simp) (by simp)
  go_enter Try.func40, Try.ntmps40
  go_wp2_with (at_builtin; refine wpList_append_own _ rfl (.tmp 5) (.tmp 6) 22 rfl w.heap.size 5 i0 (.int .u8 0) 1 1 Try.underlying22 hi hz0 hz1 hz2 rfl (by decide) _ 0 [] rfl hown a n c (cellsOf .u8 xs) rfl ?c0 ?c1 ?c2 ?c3 ?c4 ?c5 ?_)
  case c0 => simpa using hl
  case c1 => intro j u hu; exact (Chg.refl [] w).alloc _ |>.cell (hr2 j u hu) (by simp)
  case c2 => exact cellsOf_one
  case c3 => unfold maxLen; omega
  case c4 => omega
  case c5 => simp
  intro v' w' hown' hgrow _
  go_wp2
  go_ret
  obtain ⟨A', c', rfl⟩ := own_form hown'
  subst hl
  exact ⟨A', c', rfl, by simpa using hown', ((Chg.refl [] w).alloc _).grown hgrow (fun k hk => by simp [Value.ownBlock] at hk; right; omega)⟩
theorem clone_any (w : World) (v : Value) (xs : List Int) (h : Sl w 1 v xs.length (cellsOf .u8 xs)) (hn : xs.length ≤ 140737488351232) :
    Calls Try.prog 40 #[v] w (CloneEnd w xs) := by
  cases hb : v.ownBlock with
  | none =>
    obtain ⟨rfl, h1, h2⟩ := h.nil_of hb
    obtain rfl : xs = [] := List.eq_nil_of_length_eq_zero h1
    refine (clone_nil w).mono ?_
    rintro e w' ⟨rfl, rfl⟩
    exact ⟨_, _, rfl, World.ownsRow_nil _ _ _ _, Chg.refl _ _⟩
  | some k =>
    obtain ⟨A, c, rfl, _⟩ := id h
    cases A with
    | none => simp [Value.ownBlock] at hb
    | some a => exact clone_some w a _ c xs h hn

/-- A window at block `g`: `r` is its row's block, `bs` its bytes, `h` how many are held. -/
def Win (w : World) (g : Nat) (r : Option Nat) (m t : Int) (h : Nat) (bs : List Int) : Prop :=
  ∃ A c xs, w.heap[g]? = some (.cells #[.slice A h c, .int .i64 bs.length, .int .i64 m, .int .i64 t] 74 (0, 0)) ∧
    w.ownsRow 0 5 1 (.slice A h c) h (cellsOf .u8 xs) ∧ (Value.slice A h c).ownBlock = r ∧ (∃ pre, xs = pre ++ bs) ∧ bs.length ≤ m ∧ 1 ≤ m ∧ m ≤ 1048576 ∧ (h : Int) ≤ 2 * m ∧ 0 ≤ t

theorem Win.lt {w : World} {g : Nat} {r : Option Nat} {m t : Int} {h : Nat} {bs : List Int} (H : Win w g r m t h bs) : g < w.heap.size ∧ ∀ k, r = some k → k < w.heap.size ∧ k ≠ g := by
  obtain ⟨A, c, xs, hg, ho, hr, _⟩ := H
  refine ⟨lt_heap hg, fun k hk => ?_⟩
  rw [hk] at hr
  refine ⟨(ho.lt k hr).2, ?_⟩
  rintro rfl
  rcases ho.2 with ⟨e, _⟩ | ⟨q, cap, cur, e, _, hq, _⟩
  · rw [e] at hr; simp [Value.ownBlock] at hr
  · rw [e] at hr; simp [Value.ownBlock] at hr; subst hr
    rw [hg] at hq; simp at hq
theorem Win.chg {S : List Nat} {w w' : World} {g : Nat} {r : Option Nat} {m t : Int} {h : Nat} {bs : List Int} (H : Win w g r m t h bs) (hc : Chg S w w') (h1 : g ∉ S) (h2 : ∀ k, r = some k → k ∉ S) : Win w' g r m t h bs := by
  obtain ⟨A, c, xs, hg, ho, hr, rest⟩ := H
  exact ⟨A, c, xs, hc.heap hg h1, own_chg ho hc (fun k hk => h2 k (hr ▸ hk)), hr, rest⟩
theorem Win.bounds {w : World} {g : Nat} {r : Option Nat} {m t : Int} {h : Nat} {bs : List Int} (H : Win w g r m t h bs) : bs.length ≤ h ∧ bs.length ≤ m ∧ 1 ≤ m ∧ m ≤ 1048576 ∧ (h : Int) ≤ 2 * m ∧ 0 ≤ t := by
  obtain ⟨A, c, xs, hg, ho, hr, ⟨pre, rfl⟩, rest⟩ := H
  refine ⟨?_, rest⟩
  have := ho.1
  simp at this; omega

theorem may_any (m : Int) (w : World) :
    Calls Try.prog 34 #[.int .i64 m] w fun e w' => e = .returned (.bool (decide (1 ≤ m) && decide (m ≤ 1048576))) ∧ w = w' := by
  by_cases h1 : 1 ≤ m <;> by_cases h2 : m ≤ 1048576 <;>
  · go_enter Try.func34, Try.ntmps34
    go_wp2
    go_ret
    simp [h1, h2]
theorem new_bad (m : Int) (w : World) (h : ¬ (1 ≤ m ∧ m ≤ 1048576)) :
    Calls Try.prog 21 #[.int .i64 m] w fun e w' => e = .returned (.tuple #[.pointer none, .int .i64 3]) ∧ w = w' := by
  have hb : (decide (1 ≤ m) && decide (m ≤ 1048576)) = false := by
    simp; omega
  go_enter Try.func21, Try.ntmps21
  go_wp2_with (go_at_call 34; refine (may_any _ _).mono ?_; rintro e w' ⟨rfl, rfl⟩)
  go_ret2
  exact ⟨rfl, rfl⟩
theorem new_good (m : Int) (w : World) (h1 : 1 ≤ m) (h2 : m ≤ 1048576) :
    Calls Try.prog 21 #[.int .i64 m] w fun e w' => e = .returned (.tuple #[.pointer (some ⟨w.heap.size, 0, none⟩), .int .i64 0]) ∧
      Win w' w.heap.size none m 0 0 [] ∧ Chg [] w w' ∧ w.heap.size < w'.heap.size := by
  have hb : (decide (1 ≤ m) && decide (m ≤ 1048576)) = true := by
    simp; omega
  go_enter Try.func21, Try.ntmps21
  go_wp2_with (go_at_call 34; refine (may_any _ _).mono ?_; rintro e w' ⟨rfl, rfl⟩)
  go_ret2
  exact ⟨rfl, ⟨none, 0, [], blk_new _ _, World.ownsRow_nil _ _ _ _, rfl, ⟨[], rfl⟩, by simp; omega, h1, h2, by omega, by omega⟩, (Chg.refl _ _).alloc _, by simp⟩
theorem total_any (g : Nat) {r : Option Nat} {m t : Int} {h : Nat} {bs : List Int} (w : World) (H : Win w g r m t h bs) :
    Calls Try.prog 28 #[.pointer (some ⟨g, 0, none⟩)] w fun e w' => e = .returned (.int .i64 t) ∧ w = w' := by
  obtain ⟨A, c, xs, hg, _⟩ := H
  have hc : w.cell? ⟨g, 3, none⟩ = some (.int .i64 t) := by simp [World.cell?, hg]
  clear hg
  go_enter Try.func28, Try.ntmps28
  go_wp2
  go_ret
  exact ⟨rfl, rfl⟩
theorem total_nil (w : World) : Calls Try.prog 28 #[.pointer none] w fun e w' => e = .returned (.int .i64 0) ∧ w = w' := by
  go_enter Try.func28, Try.ntmps28
  go_wp2
  go_ret
  exact ⟨rfl, rfl⟩
theorem cut_nil (w : World) : Calls Try.prog 29 #[.pointer none] w fun e w' => e = .returned (.tuple #[]) ∧ w = w' := by
  go_enter Try.func29, Try.ntmps29
  go_wp2
  go_end0
  exact ⟨rfl, rfl⟩
theorem put_nil (w : World) (v : Value) : Calls Try.prog 26 #[.pointer none, v] w fun e w' => e = .returned (.tuple #[]) ∧ w = w' := by
  go_enter Try.func26, Try.ntmps26
  go_wp2
  exact bodyPost_ret (v := .tuple #[]) (results_none rfl _ _ _) rfl ⟨rfl, rfl⟩
theorem bytes_nil (w : World) : Calls Try.prog 27 #[.pointer none] w fun e w' => e = .returned (.slice none 0 0) ∧ w = w' := by
  go_enter Try.func27, Try.ntmps27
  go_wp2
  go_ret
  exact ⟨rfl, rfl⟩
theorem cut_any (g : Nat) {r : Option Nat} {m t : Int} {h : Nat} {bs : List Int} (w : World) (H : Win w g r m t h bs) :
    Calls Try.prog 29 #[.pointer (some ⟨g, 0, none⟩)] w fun e w' => e = .returned (.tuple #[]) ∧ Win w' g r m 0 0 [] ∧ Chg [g] w w' := by
  obtain ⟨A, c, xs, hg, ho, hr, hp, h1, h2, h3, h4, h5⟩ := H
  have hc : w.cell? ⟨g, 0, none⟩ = some (.slice A h c) := by simp [World.cell?, hg]
  have f0 : w.frozen? ⟨g, 0, none⟩ = false := by simp [World.frozen?, hg]
  have f1 : w.frozen? ⟨g, 1, none⟩ = false := by simp [World.frozen?, hg]
  have f3 : w.frozen? ⟨g, 3, none⟩ = false := by simp [World.frozen?, hg]
  have k1 : w.cell? ⟨g, 1, none⟩ = some (.int .i64 bs.length) := by simp [World.cell?, hg]
  have k3 : w.cell? ⟨g, 3, none⟩ = some (.int .i64 t) := by simp [World.cell?, hg]
  have hne : (Value.slice A h c).ownBlock ≠ some g := fun e => (Win.lt ⟨A, c, xs, hg, ho, hr, hp, h1, h2, h3, h4, h5⟩).2 g (hr ▸ e) |>.2 rfl
  have hne' : (Value.slice A 0 c).ownBlock ≠ some g := by rw [ownBlock_len A 0 c h c]; exact hne
  have K := Lib.hid (And.intro hg (And.intro (own_take ho 0 (by omega)) (And.intro hr (And.intro hne' (And.intro h2 h3)))))
  clear hg ho hr hp h1 h2 h3 h4 h5 hne hne'
  go_enter Try.func29, Try.ntmps29
  go_wp2
  go_end0
  obtain ⟨hg, ho, hr, hne, h2, h3⟩ := K.out
  refine ⟨rfl, ⟨A, c, [], ?_, own_set (own_set (own_set (by simpa using ho) _ _ _ hne) _ _ _ hne) _ _ _ hne, by rw [ownBlock_len A 0 c h c]; exact hr, ⟨[], rfl⟩, by simp; omega, h2, h3, by simp; omega, by omega⟩, ?_⟩
  · exact blk_set (blk_set (blk_set hg _ _) _ _) _ _
  · exact ((((Chg.refl [g] w).setCell (.inl (by simp)) _).setCell (.inl (by simp)) _).setCell (.inl (by simp)) _)

def BytesEnd (w : World) (bs : List Int) (e : Ending) (w' : World) : Prop :=
  ∃ A c, e = .returned (.slice A bs.length c) ∧ w'.ownsRow w.heap.size 5 1 (.slice A bs.length c) bs.length (cellsOf .u8 bs) ∧ Chg [] w w'
set_option maxRecDepth 100000 in
theorem bytes_any (g : Nat) {r : Option Nat} {m t : Int} {h : Nat} {bs : List Int} (w : World) (H : Win w g r m t h bs) :
    Calls Try.prog 27 #[.pointer (some ⟨g, 0, none⟩)] w (BytesEnd w bs) := by
  obtain ⟨A, c, xs, hg, ho, hr, ⟨pre, rfl⟩, h1, h2, h3, h4, h5⟩ := H
  have hl : pre.length + bs.length = h := by have := ho.1; simpa using this
  have hc : w.cell? ⟨g, 0, none⟩ = some (.slice A h c) := by simp [World.cell?, hg]
  have k1 : w.cell? ⟨g, 1, none⟩ = some (.int .i64 bs.length) := by simp [World.cell?, hg]
  have e1 : IntKind.i64.wrap ((h : Int) - bs.length) = (h : Int) - bs.length := IntWalk.i64_in _ (by omega)
  obtain ⟨A', c', hsl, hS, hb⟩ := slice_from (P := Try.prog) 22 5 Try.underlying22 Try.info_u8 (own_sl ho) ((h : Int) - bs.length) (by omega) bs.length (by omega)
  have hS' : Sl w 1 (.slice A' bs.length c') bs.length (cellsOf .u8 bs) := by
    have e2 : ((h : Int) - bs.length).toNat = pre.length := by omega
    rw [e2, cellsOf_drop] at hS
    simpa [← hl] using hS
  have hcl := fun (w1 : World) (hw : Chg [] w w1) => clone_any w1 _ bs (hS'.chg hw (by simp)) (by omega)
  clear hg ho hr hl h1 h2 h3 h4 h5 hS hS' hb
  go_enter Try.func27, Try.ntmps27
  go_wp2
  go_still_tail 15, (by kernel_rfl)
  go_wp2_with (go_at_call 40; refine (hcl _ (by exact (Chg.refl _ _).drew)).mono ?_; rintro e w' ⟨A2, c2, rfl, ho2, hc2⟩)
  go_ret
  exact ⟨_, _, rfl, ho2, ((Chg.refl [] w).drew).trans hc2⟩
end Go.Proofs.Ytojgdmpnbgikeaa
