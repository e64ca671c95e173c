/- The slice type over Gram. -/
import Derived.Test.YtenkobgeflckdaaProg
import Derived.Test.YtenkobgeflckdaaWa
import Derived.KernelRfl
namespace Go.Proofs.Ytenkobgeflckdaa
theorem elGram : ElT Try.prog 41 33 3 48 (Value.cells (.agg #[.string ⟨#[]⟩, .string ⟨#[]⟩, .string ⟨#[]⟩])).toList :=
  ElT.mk' (by kernel_rfl) (by kernel_rfl) rfl (by omega) (by intro u hu; simp only [Value.cells, List.mem_cons, List.not_mem_nil, or_false] at hu; rcases hu with rfl | rfl | rfl <;> rfl)
theorem stGram : StT Try.prog 33 3 := ⟨⟨_, Try.underlying33⟩, by kernel_rfl⟩
end Go.Proofs.Ytenkobgeflckdaa
