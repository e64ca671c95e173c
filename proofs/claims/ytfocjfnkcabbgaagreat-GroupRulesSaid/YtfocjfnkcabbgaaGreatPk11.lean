/- The laws' pick of layer 11. -/
import Derived.Test.YtfocjfnkcabbgaaGreatPickW
set_option linter.unusedVariables false
set_option linter.unusedSimpArgs false
namespace Go.Proofs.YtfocjfnkcabbgaaGreat
open Go.RowKit Go.Shelf

set_option maxHeartbeats 400000 in
theorem pick11 (w : World) (c n : Int) (h0 : -9223372036854775808 ≤ c) (h1 : c ≤ 9223372036854775807) (hn : 0 < n) (hn2 : n ≤ 9223372036854775807) :
    Calls Tryz.prog 11 #[.int .i64 c, .int .i64 n] w fun e w' => e = .returned (.int .i64 (pk c n)) ∧ w = w' := by
  by_cases hc : c < 0
  · have hp : -((c + 1).tmod n) = pk c n := by unfold pk; rw [if_pos hc, ← Int.neg_tmod, Int.tmod_eq_emod_of_nonneg (by omega)]
    have Hp := Lib.hid hp
    clear hp
    go_enter Tryz.func11, Tryz.ntmps11
    go_wp2_with fail
    go_ret
    exact ⟨congrArg (fun z => Ending.returned (.int .i64 z)) Hp.out, rfl⟩
  · have hp : pk c n = c % n := by unfold pk; rw [if_neg hc]
    have Hp := Lib.hid hp
    clear hp
    go_enter Tryz.func11, Tryz.ntmps11
    go_wp2_with fail
    go_ret
    exact ⟨by rw [Hp.out]; rfl, rfl⟩
end Go.Proofs.YtfocjfnkcabbgaaGreat
