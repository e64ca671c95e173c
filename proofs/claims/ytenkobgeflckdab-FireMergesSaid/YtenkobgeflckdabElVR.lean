/- The slice type over Value; The slice type over Row. -/
import Derived.Test.YtenkobgeflckdabProg
import Derived.Test.YtenkobgeflckdabWa
import Derived.KernelRfl
namespace Go.Proofs.Ytenkobgeflckdab
theorem elValue : ElT Try.prog 28 46 4 56 (Value.cells (.agg #[.int .i64 0, .int .i64 0, .string ⟨#[]⟩, .slice none 0 0])).toList :=
  ElT.mk' (by kernel_rfl) (by kernel_rfl) rfl (by omega) (by intro u hu; simp only [Value.cells, List.mem_cons, List.not_mem_nil, or_false] at hu; rcases hu with rfl | rfl | rfl | rfl <;> rfl)
theorem stValue : StT Try.prog 46 4 := ⟨⟨_, Try.underlying46⟩, by kernel_rfl⟩
end Go.Proofs.Ytenkobgeflckdab

namespace Go.Proofs.Ytenkobgeflckdab
theorem elRow : ElT Try.prog 24 30 3 48 (Value.cells (.agg #[.string ⟨#[]⟩, .slice none 0 0, .int .i64 0])).toList :=
  ElT.mk' (by kernel_rfl) (by kernel_rfl) rfl (by omega) (by intro u hu; simp only [Value.cells, List.mem_cons, List.not_mem_nil, or_false] at hu; rcases hu with rfl | rfl | rfl <;> rfl)
theorem stRow : StT Try.prog 30 3 := ⟨⟨_, Try.underlying30⟩, by kernel_rfl⟩
end Go.Proofs.Ytenkobgeflckdab
