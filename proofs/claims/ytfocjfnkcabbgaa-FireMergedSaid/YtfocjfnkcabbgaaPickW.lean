/- The laws' raw numbers; The laws' pick. -/
import Derived.Test.YtfocjfnkcabbgaaProg
import Derived.Test.YtfocjfnkcabbgaaWa
import Derived.Lib.Hide
namespace Go.Proofs.Ytfocjfnkcabbgaa
/-- Which of n things a raw number speaks of. -/
def pk (c n : Int) : Int := (if c < 0 then -(c + 1) else c) % n
theorem pk_lo (c n : Int) (h : 0 < n) : 0 ≤ pk c n := by unfold pk; exact Int.emod_nonneg _ (by omega)
theorem pk_hi (c n : Int) (h : 0 < n) : pk c n < n := by unfold pk; exact Int.emod_lt_of_pos _ h
end Go.Proofs.Ytfocjfnkcabbgaa

set_option linter.unusedVariables false
namespace Go.Proofs.Ytfocjfnkcabbgaa
open Go.RowKit Go.Shelf

set_option maxHeartbeats 400000 in
theorem pick06 (w : World) (c n : Int) (h0 : -9223372036854775808 ≤ c) (h1 : c ≤ 9223372036854775807) (hn : 0 < n) (hn2 : n ≤ 9223372036854775807) :
    Calls Try.prog 13 #[.int .i64 c, .int .i64 n] w fun e w' => e = .returned (.int .i64 (pk c n)) ∧ w = w' := by
  by_cases hc : c < 0
  · have hp : -((c + 1).tmod n) = pk c n := by unfold pk; rw [if_pos hc, ← Int.neg_tmod, Int.tmod_eq_emod_of_nonneg (by omega)]
    have Hp := Lib.hid hp
    clear hp
    go_enter Try.func13, Try.ntmps13
    go_wp2_with fail
    go_ret
    exact ⟨congrArg (fun z => Ending.returned (.int .i64 z)) Hp.out, rfl⟩
  · have hp : pk c n = c % n := by unfold pk; rw [if_neg hc]
    have Hp := Lib.hid hp
    clear hp
    go_enter Try.func13, Try.ntmps13
    go_wp2_with fail
    go_ret
    exact ⟨by rw [Hp.out]; rfl, rfl⟩


set_option maxHeartbeats 400000 in
theorem pick10 (w : World) (c n : Int) (h0 : -9223372036854775808 ≤ c) (h1 : c ≤ 9223372036854775807) (hn : 0 < n) (hn2 : n ≤ 9223372036854775807) :
    Calls Try.prog 17 #[.int .i64 c, .int .i64 n] w fun e w' => e = .returned (.int .i64 (pk c n)) ∧ w = w' := by
  by_cases hc : c < 0
  · have hp : -((c + 1).tmod n) = pk c n := by unfold pk; rw [if_pos hc, ← Int.neg_tmod, Int.tmod_eq_emod_of_nonneg (by omega)]
    have Hp := Lib.hid hp
    clear hp
    go_enter Try.func17, Try.ntmps17
    go_wp2_with fail
    go_ret
    exact ⟨congrArg (fun z => Ending.returned (.int .i64 z)) Hp.out, rfl⟩
  · have hp : pk c n = c % n := by unfold pk; rw [if_neg hc]
    have Hp := Lib.hid hp
    clear hp
    go_enter Try.func17, Try.ntmps17
    go_wp2_with fail
    go_ret
    exact ⟨by rw [Hp.out]; rfl, rfl⟩


theorem own_ne_blk {w : World} {B : Nat} {e t : TypeId} {k : Nat} {v : Value} {css : List (List Value)} {g : Nat} {cs : Array Value} (h : Own w B e k v css) (hb : Blk w g t cs) (hne : t ≠ e) : v.ownBlock ≠ some g := by
  intro he
  rcases h.1.2 with ⟨h1, _⟩ | ⟨g', cap, cur, h1, _, hg, _⟩
  · rw [h1] at he; cases he
  · rw [h1] at he
    simp only [Value.ownBlock, Option.some.injEq] at he
    subst he
    exact Blk.ne hb (show Blk w g' _ cur from hg) hne rfl
end Go.Proofs.Ytfocjfnkcabbgaa
