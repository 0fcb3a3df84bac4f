/- The window's laws: what they all begin with. No condition. -/
import Derived.Test.YtjfbbobaghdocaaWinMost
namespace Go.Proofs.Ytjfbbobaghdocaa
open Go.RowKit

theorem put_new (w : World) (g : Nat) (r : Option Nat) (m t : Int) (h : Nat) (bs : List Int) (H : Win w g r m t h bs) (ys : List Int) (n : Nat) (hn : ys.length = n)
    (t' : Int) (ht' : t + n = t') (bs' : List Int) (hbs : lastN m.toNat (bs ++ ys) = bs') (ht : t' ≤ 1152921504606846976) :
    Calls Try.prog 11 #[.pointer (some ⟨g, 0, none⟩), .slice (some ⟨w.heap.size, 0, none⟩) n n] (w.alloc (.cells (cellsOf .u8 ys).toArray 5)) (PutPost w g r m t' bs') := by
  subst ht' hbs hn
  have hc : Chg (g :: r.toList) w (w.alloc (.cells (cellsOf .u8 ys).toArray 5)) := (Chg.refl _ w).alloc _
  have hlt := H.lt
  refine (put_any _ g r m t h bs (H.chg (S := []) ((Chg.refl _ w).alloc _) (by simp) (by simp)) _ ys (by exact sl_new w _ _ _ (by simp) (by have := H.bounds; unfold maxLen; omega)) ?_ ht).mono ?_
  · intro q hq
    simp [Value.ownBlock] at hq
    subst hq
    exact ⟨by omega, fun e => by have := (hlt.2 _ e).1; omega⟩
  · rintro e w' ⟨rfl, r', h', hW, hr, hC⟩
    refine ⟨rfl, r', h', hW, fun q hq => ?_, hc.trans hC⟩
    rcases hr q hq with h | h
    · exact .inl h
    · right; simp at h; omega

def NewEnd (w : World) (m : Int) (e : Ending) (w' : World) : Prop :=
  ∃ g, e = .returned (.tuple #[.pointer (some ⟨g, 0, none⟩), .int .i64 0]) ∧ Win w' g none m 0 0 [] ∧ Chg [] w w' ∧ w.heap.size ≤ g
theorem new_any (m : Int) (w : World) (h1 : 1 ≤ m) (h2 : m ≤ 1048576) : Calls Try.prog 9 #[.int .i64 m] w (NewEnd w m) := by
  refine (new_good m w h1 h2).mono ?_
  rintro e w1 ⟨rfl, hW1, hC1, hs1⟩
  exact ⟨_, rfl, hW1, hC1, Nat.le_refl _⟩
theorem bytes_str (w : World) (g : Nat) {r : Option Nat} {m t : Int} {h : Nat} {bs : List Int} (H : Win w g r m t h bs) (n : Nat) (hn : bs.length = n) (s : ByteArray) (hs : strOfNums bs = s) :
    Calls Try.prog 12 #[.pointer (some ⟨g, 0, none⟩)] w fun e w' => ∃ A c, e = .returned (.slice A n c) ∧ (convert 22 9 (.slice A n c)).run Try.prog w' = .ok (.string s) w' ∧ w'.ownsRow w.heap.size 5 1 (.slice A n c) n (cellsOf .u8 bs) ∧ Chg [] w w' := by
  subst hn hs
  refine (bytes_any g w H).mono ?_
  rintro e w' ⟨A, c, rfl, ho, hc⟩
  exact ⟨A, c, rfl, sl_string (own_sl ho) 22 5 9 Try.underlying22 Try.underlying5 Try.underlying9, ho, hc⟩

theorem alive_any (w : World) : Calls Try.prog 10 #[] w fun e w' => e = .returned (.bool true) ∧ Chg [] w w' := by
  go_enter Try.func10, Try.ntmps10
  go_wp2_with fail
  refine (new_good 3 w (by omega) (by omega)).mono ?_
  rintro e w1 ⟨rfl, hW1, hC1, hs1⟩
  go_wp2_with fail
  refine (put_new w1 _ _ _ _ _ _ hW1 [97, 98, 99, 100] 4 rfl 4 rfl [98, 99, 100] (by decide) (by omega)).mono ?_
  rintro e w2 ⟨rfl, r2, h2, hW2, hr2, hC2⟩
  replace hC2 := hC1.then hC2 (by simp)
  go_wp2_with fail
  refine (bytes_str w2 _ hW2 3 rfl ⟨#[98, 99, 100]⟩ rfl).mono ?_
  rintro e w3 ⟨A3, c3, rfl, hs3, -, hC3⟩
  have hW3 := hW2.chg hC3 (by simp) (by simp)
  replace hC3 := hC2.trans hC3
  clear hW1 hW2 hC1 hC2
  go_wp2_with fail
  refine (total_any _ w3 hW3).mono ?_
  rintro e w' ⟨rfl, rfl⟩
  go_wp2_with fail
  refine (most_good w3 _ _ _ _ _ _ hW3 5 (by omega) (by omega)).mono ?_
  rintro e w4 ⟨rfl, r4, hW4, hr4, hC4⟩
  have z3 := hC3.size
  replace hC4 := hC3.then hC4 (by simp)
  go_wp2_with fail
  refine (put_new w4 _ _ _ _ _ _ hW4 [101] 1 rfl 5 rfl [98, 99, 100, 101] (by decide) (by omega)).mono ?_
  rintro e w5 ⟨rfl, r5, h5, hW5, hr5, hC5⟩
  replace hC5 := hC4.then hC5 (by rintro x hx; simp at hx; rcases hx with rfl | hx; simp; right; have := hr4 x hx; omega)
  go_wp2_with fail
  refine (bytes_str w5 _ hW5 4 rfl ⟨#[98, 99, 100, 101]⟩ rfl).mono ?_
  rintro e w6 ⟨A6, c6, rfl, hs6, -, hC6⟩
  go_wp2
  go_ret
  exact ⟨rfl, hC5.trans hC6⟩
end Go.Proofs.Ytjfbbobaghdocaa
