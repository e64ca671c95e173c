/- The slice type over Value; The slice type over Row. -/
import Derived.Test.YtenkobgeflckdaaProg
import Derived.Test.YtenkobgeflckdaaWa
import Derived.KernelRfl
namespace Go.Proofs.Ytenkobgeflckdaa
theorem elValue : ElT Try.prog 56 69 4 56 (Value.cells (.agg #[.int .i64 0, .int .i64 0, .string ⟨#[]⟩, .slice none 0 0])).toList :=
  ElT.mk' (by kernel_rfl) (by kernel_rfl) rfl (by omega) (by intro u hu; simp only [Value.cells, List.mem_cons, List.not_mem_nil, or_false] at hu; rcases hu with rfl | rfl | rfl | rfl <;> rfl)
theorem stValue : StT Try.prog 69 4 := ⟨⟨_, Try.underlying69⟩, by kernel_rfl⟩
end Go.Proofs.Ytenkobgeflckdaa

namespace Go.Proofs.Ytenkobgeflckdaa
theorem elRow : ElT Try.prog 50 58 3 48 (Value.cells (.agg #[.string ⟨#[]⟩, .slice none 0 0, .int .i64 0])).toList :=
  ElT.mk' (by kernel_rfl) (by kernel_rfl) rfl (by omega) (by intro u hu; simp only [Value.cells, List.mem_cons, List.not_mem_nil, or_false] at hu; rcases hu with rfl | rfl | rfl <;> rfl)
theorem stRow : StT Try.prog 58 3 := ⟨⟨_, Try.underlying58⟩, by kernel_rfl⟩
end Go.Proofs.Ytenkobgeflckdaa
