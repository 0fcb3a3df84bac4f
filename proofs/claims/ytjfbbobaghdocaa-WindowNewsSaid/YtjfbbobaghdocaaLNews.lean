/- WindowNews: the walk. No condition. -/
import Derived.Test.YtjfbbobaghdocaaWinLaw
set_option linter.unusedVariables false
set_option linter.unusedSimpArgs false
namespace Go.Proofs.Ytjfbbobaghdocaa
open Go.RowKit

theorem windowNews_walk (m : Int) (w : World) : Calls Try.prog 8 #[.int .i64 m] w fun e w' => e = .returned (.bool true) ∧ Below w.heap.size w w' := by
  by_cases hm : 1 ≤ m ∧ m ≤ 1048576
  · obtain ⟨h1, h2⟩ := hm
    go_enter Try.func8, Try.ntmps8
    go_wp2_with (first
      | (go_at_call 11; refine (put_nil _ _).mono ?_; rintro e w' ⟨rfl, rfl⟩)
      | (go_at_call 14; refine (cut_nil _).mono ?_; rintro e w' ⟨rfl, rfl⟩)
      | (go_at_call 15; refine (most_nil _ _).mono ?_; rintro e w' ⟨rfl, rfl⟩)
      | (go_at_call 12; refine (bytes_nil _).mono ?_; rintro e w' ⟨rfl, rfl⟩)
      | (go_at_call 13; refine (total_nil _).mono ?_; rintro e w' ⟨rfl, rfl⟩)
      | (go_at_call 16; refine (held_nil _).mono ?_; rintro e w' ⟨rfl, rfl⟩))
    refine (new_any m _ h1 h2).mono ?_
    rintro e w1 ⟨g, rfl, hW1, hC1, -⟩
    replace hC1 := ((Chg.refl [] w).alloc _).trans hC1
    go_wp2_with fail
    refine (alive_any _).mono ?_
    rintro e w2 ⟨rfl, hC2⟩
    replace hW2 := hW1.chg hC2 (by simp) (by simp)
    replace hC2 := hC1.trans hC2
    clear hW1 hC1
    go_wp2_with fail
    refine (bytes_any _ _ hW2).mono ?_
    rintro e w3 ⟨A3, c3, rfl, -, hC3⟩
    replace hW3 := hW2.chg hC3 (by simp) (by simp)
    replace hC3 := hC2.trans hC3
    clear hW2 hC2
    go_wp2_with fail
    refine (total_any _ _ hW3).mono ?_
    rintro e w' ⟨rfl, rfl⟩
    go_wp2
    go_ret
    exact ⟨rfl, hC3.below⟩
  · have h1 : m < 1 ∨ 1048576 < m := by omega
    rcases h1 with h1 | h1
    all_goals
      go_enter Try.func8, Try.ntmps8
      go_wp2_with (first
        | (go_at_call 11; refine (put_nil _ _).mono ?_; rintro e w' ⟨rfl, rfl⟩)
        | (go_at_call 14; refine (cut_nil _).mono ?_; rintro e w' ⟨rfl, rfl⟩)
        | (go_at_call 15; refine (most_nil _ _).mono ?_; rintro e w' ⟨rfl, rfl⟩)
        | (go_at_call 12; refine (bytes_nil _).mono ?_; rintro e w' ⟨rfl, rfl⟩)
        | (go_at_call 13; refine (total_nil _).mono ?_; rintro e w' ⟨rfl, rfl⟩)
        | (go_at_call 16; refine (held_nil _).mono ?_; rintro e w' ⟨rfl, rfl⟩))
      refine (new_bad m _ hm).mono ?_
      rintro e w1 ⟨rfl, rfl⟩
      go_wp2_with fail
      refine (alive_any _).mono ?_
      rintro e w2 ⟨rfl, hC2⟩
      go_wp2
      go_ret
      exact ⟨rfl, (((Chg.refl [] w).alloc _).trans hC2).below⟩
end Go.Proofs.Ytjfbbobaghdocaa
