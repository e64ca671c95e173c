/- Rows of k integers each in a slice. -/
import Derived.Test.YtenkobgeflckdaaWa
set_option linter.unusedVariables false
namespace Go.Proofs.Ytenkobgeflckdaa
open Go.RowKit

def IntsAt (W : World) (v : Value) (k n : Nat) (X : Nat → Int) : Prop :=
  (∃ A c, v = .slice A n c ∧ n ≤ c ∧ c ≤ maxLen ∧ (0 < n → ∃ a, A = some a ∧ ∀ q, q < n * k → W.cell? (a.add q) = some (.int .i64 (X q)))) ∧ ∀ q, -9223372036854775808 ≤ X q ∧ X q ≤ 9223372036854775807
theorem add_offs (a : Addr) (n : Nat) : (a.add n).off = a.off + n := by
  unfold Addr.add
  split
  · rename_i h; rw [h]; rfl
  · rfl
theorem add_succ (a : Addr) (n : Nat) : a.add (n + 1) = ⟨a.block, a.off + (n + 1), none⟩ := by
  unfold Addr.add
  rw [if_neg (by omega)]
end Go.Proofs.Ytenkobgeflckdaa
