/- The window's laws: what they all begin with. No condition. -/
import Derived.Test.YtjfbbobaghdocaaWinMost
set_option linter.unusedVariables false
set_option linter.unusedSimpArgs false
namespace Go.Proofs.Ytjfbbobaghdocaa
open Go.RowKit

theorem put_new (w : World) (g : Nat) (r : Option Nat) (m t : Int) (h : Nat) (bs : List Int) (H : Win w g r m t h bs) (ys : List Int) (n : Nat) (hn : ys.length = n)
    (t' : Int) (ht' : t + n = t') (bs' : List Int) (hbs : lastN m.toNat (bs ++ ys) = bs') (ht : t' ≤ 1152921504606846976) :
    Calls Try.prog 11 #[.pointer (some ⟨g, 0, none⟩), .slice (some ⟨w.heap.size, 0, none⟩) n n] (w.alloc (.cells (cellsOf .u8 ys).toArray 5)) (PutPost w g r m t' bs') := by
  subst ht' hbs hn
  have hc : Chg (g :: r.toList) w (w.alloc (.cells (cellsOf .u8 ys).toArray 5)) := (Chg.refl _ w).alloc _
  have hlt := H.lt
  refine (put_any _ g r m t h bs (H.chg (S := []) ((Chg.refl _ w).alloc _) (by simp) (by simp)) _ ys (by exact sl_new w _ _ _ (by simp) (by have := H.bounds; unfold maxLen; omega)) ?_ ht).mono ?_
  · intro _ q hq
    simp [Value.ownBlock] at hq
    subst hq
    exact ⟨by omega, fun e => by have := (hlt.2 _ e).1; omega⟩
  · rintro e w' ⟨rfl, r', h', hW, hr, hC⟩
    refine ⟨rfl, r', h', hW, fun q hq => ?_, hc.trans hC⟩
    rcases hr q hq with h | h
    · exact .inl h
    · right; simp at h; omega

def NewEnd (w : World) (m : Int) (e : Ending) (w' : World) : Prop :=
  ∃ g, e = .returned (.tuple #[.pointer (some ⟨g, 0, none⟩), .int .i64 0]) ∧ Win w' g none m 0 0 [] ∧ Chg [] w w' ∧ w.heap.size ≤ g
theorem new_any (m : Int) (w : World) (h1 : 1 ≤ m) (h2 : m ≤ 1048576) : Calls Try.prog 9 #[.int .i64 m] w (NewEnd w m) := by
  refine (new_good m w h1 h2).mono ?_
  rintro e w1 ⟨rfl, hW1, hC1, hs1⟩
  exact ⟨_, rfl, hW1, hC1, Nat.le_refl _⟩
theorem bytes_str (w : World) (g : Nat) {r : Option Nat} {m t : Int} {h : Nat} {bs : List Int} (H : Win w g r m t h bs) (n : Nat) (hn : bs.length = n) (s : ByteArray) (hs : strOfNums bs = s) :
    Calls Try.prog 12 #[.pointer (some ⟨g, 0, none⟩)] w fun e w' => ∃ A c, e = .returned (.slice A n c) ∧ (convert 22 9 (.slice A n c)).run Try.prog w' = .ok (.string s) w' ∧ w'.ownsRow w.heap.size 5 1 (.slice A n c) n (cellsOf .u8 bs) ∧ Chg [] w w' := by
  subst hn hs
  refine (bytes_any g w H).mono ?_
  rintro e w' ⟨A, c, rfl, ho, hc⟩
  exact ⟨A, c, rfl, sl_string (own_sl ho) 22 5 9 Try.underlying22 Try.underlying5 Try.underlying9, ho, hc⟩

theorem alive_any (w : World) : Calls Try.prog 10 #[] w fun e w' => e = .returned (.bool true) ∧ Chg [] w w' := by
  go_enter Try.func10, Try.ntmps10
  go_wp2_with fail
  refine (new_good 3 w (by omega) (by omega)).mono ?_
  rintro e w1 ⟨rfl, hW1, hC1, hs1⟩
  go_wp2_with fail
  refine (put_new w1 _ _ _ _ _ _ hW1 [97, 98, 99, 100] 4 rfl 4 rfl [98, 99, 100] (by decide) (by omega)).mono ?_
  rintro e w2 ⟨rfl, r2, h2, hW2, hr2, hC2⟩
  replace hC2 := hC1.then hC2 (by simp)
  go_wp2_with fail
  refine (bytes_str w2 _ hW2 3 rfl ⟨#[98, 99, 100]⟩ rfl).mono ?_
  rintro e w3 ⟨A3, c3, rfl, hs3, -, hC3⟩
  have hW3 := hW2.chg hC3 (by simp) (by simp)
  replace hC3 := hC2.trans hC3
  clear hW1 hW2 hC1 hC2
  go_wp2_with fail
  refine (total_any _ w3 hW3).mono ?_
  rintro e w' ⟨rfl, rfl⟩
  go_wp2_with fail
  refine (most_good w3 _ _ _ _ _ _ hW3 5 (by omega) (by omega)).mono ?_
  rintro e w4 ⟨rfl, r4, hW4, hr4, hC4⟩
  have z3 := hC3.size
  replace hC4 := hC3.then hC4 (by simp)
  go_wp2_with fail
  refine (put_new w4 _ _ _ _ _ _ hW4 [101] 1 rfl 5 rfl [98, 99, 100, 101] (by decide) (by omega)).mono ?_
  rintro e w5 ⟨rfl, r5, h5, hW5, hr5, hC5⟩
  replace hC5 := hC4.then hC5 (by rintro x hx; simp at hx; rcases hx with rfl | hx; simp; right; have := hr4 x hx; omega)
  go_wp2_with fail
  refine (bytes_str w5 _ hW5 4 rfl ⟨#[98, 99, 100, 101]⟩ rfl).mono ?_
  rintro e w6 ⟨A6, c6, rfl, hs6, -, hC6⟩
  go_wp2
  go_ret
  exact ⟨rfl, hC5.trans hC6⟩

/-- Two windows share no block. -/
def Apart (g1 : Nat) (r1 : Option Nat) (g2 : Nat) (r2 : Option Nat) : Prop := ∀ x ∈ g1 :: r1.toList, x ∉ g2 :: r2.toList
theorem Apart.symm {g1 g2 : Nat} {r1 r2 : Option Nat} (h : Apart g1 r1 g2 r2) : Apart g2 r2 g1 r1 := fun x hx hy => h x hy hx
/-- A window's blocks are younger than `W0`. -/
def Young (W0 : World) (g : Nat) (r : Option Nat) : Prop := ∀ x ∈ g :: r.toList, W0.heap.size ≤ x
theorem Win.keep {w w' : World} {g g2 : Nat} {r r2 : Option Nat} {m t : Int} {h : Nat} {bs : List Int} (H : Win w g r m t h bs) (hc : Chg (g2 :: r2.toList) w w') (ha : Apart g r g2 r2) : Win w' g r m t h bs :=
  H.chg hc (ha g (by simp)) (fun k hk => ha k (by simp [hk]))
theorem Apart.step {w : World} {g1 g2 : Nat} {r1 r1' r2 : Option Nat} {m t : Int} {h : Nat} {bs : List Int} (ha : Apart g1 r1 g2 r2) (H : Win w g2 r2 m t h bs) (hr : ∀ q, r1' = some q → r1 = some q ∨ w.heap.size ≤ q) : Apart g1 r1' g2 r2 := by
  have hl := H.lt
  intro x hx
  simp only [List.mem_cons, Option.mem_toList] at hx
  rcases hx with rfl | hx
  · exact ha x (by simp)
  · rcases hr x hx with h1 | h1
    · exact ha x (by simp [h1])
    · intro hy
      simp only [List.mem_cons, Option.mem_toList] at hy
      rcases hy with rfl | hy
      · omega
      · have := (hl.2 x hy).1; omega
theorem Young.step {W0 w : World} {g : Nat} {r r' : Option Nat} (hy : Young W0 g r) (hs : W0.heap.size ≤ w.heap.size) (hr : ∀ q, r' = some q → r = some q ∨ w.heap.size ≤ q) : Young W0 g r' := by
  intro x hx
  simp only [List.mem_cons, Option.mem_toList] at hx
  rcases hx with rfl | hx
  · exact hy x (by simp)
  · rcases hr x hx with h1 | h1
    · exact hy x (by simp [h1])
    · omega
theorem Young.chg {W0 w w' : World} {g : Nat} {r : Option Nat} (hy : Young W0 g r) (h0 : Chg [] W0 w) (h : Chg (g :: r.toList) w w') : Chg [] W0 w' := h0.then h (fun x hx => .inr (hy x hx))

def PutH (W0 w : World) (g : Nat) (m t : Int) (bs ys : List Int) (r : Option Nat) (e : Ending) (w' : World) : Prop :=
  e = .returned (.tuple #[]) ∧ ∃ r' h' bs' t', Win w' g r' m t' h' bs' ∧ Hid (bs' = lastN m.toNat (bs ++ ys)) ∧ Hid (t' = t + ys.length) ∧ (∀ q, r' = some q → r = some q ∨ w.heap.size ≤ q) ∧ Chg (g :: r.toList) w w' ∧ Young W0 g r' ∧ Chg [] W0 w'
theorem put_h (W0 w : World) (g : Nat) (r : Option Nat) (m t : Int) (h : Nat) (bs : List Int) (H : Win w g r m t h bs) (v : Value) (n : Nat) (ys : List Int)
    (hS : Sl w 1 v n (cellsOf .u8 ys)) (hv : 0 < ys.length → ∀ q, v.ownBlock = some q → q < W0.heap.size) (h0 : Chg [] W0 w) (hy : Young W0 g r) (ht : t + ys.length ≤ 1152921504606846976) :
    Calls Try.prog 11 #[.pointer (some ⟨g, 0, none⟩), v] w (PutH W0 w g m t bs ys r) := by
  obtain rfl : ys.length = n := by have := hS.len; simpa using this
  refine (put_any w g r m t h bs H v ys hS (fun h0 q hq => ⟨?_, ?_⟩) ht).mono ?_
  · have := hv h0 q hq; have := hy g (by simp); omega
  · intro e; have := hv h0 q hq; have := hy q (by simp [e]); omega
  · rintro e w' ⟨rfl, r', h', hW, hr, hC⟩
    exact ⟨rfl, r', h', _, _, hW, rfl, rfl, hr, hC, hy.step h0.size hr, hy.chg h0 hC⟩
def StrH (w : World) (bs : List Int) (e : Ending) (w' : World) : Prop :=
  ∃ A n c s, e = .returned (.slice A n c) ∧ Hid (n = bs.length) ∧ Hid (s = strOfNums bs) ∧ (convert 22 9 (.slice A n c)).run Try.prog w' = .ok (.string s) w' ∧ w'.ownsRow w.heap.size 5 1 (.slice A n c) n (cellsOf .u8 bs) ∧ Chg [] w w'
theorem bytes_h (w : World) (g : Nat) {r : Option Nat} {m t : Int} {h : Nat} {bs : List Int} (H : Win w g r m t h bs) : Calls Try.prog 12 #[.pointer (some ⟨g, 0, none⟩)] w (StrH w bs) := by
  refine (bytes_str w g H _ rfl _ rfl).mono ?_
  rintro e w' ⟨A, c, rfl, hs, ho, hc⟩
  exact ⟨A, _, c, _, rfl, rfl, rfl, hs, ho, hc⟩
end Go.Proofs.Ytjfbbobaghdocaa
