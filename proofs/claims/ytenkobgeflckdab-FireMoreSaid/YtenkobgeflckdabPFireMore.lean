/- FireMore: the statement. -/
import Derived.Test.YtenkobgeflckdabOpenR
import Derived.Test.YtenkobgeflckdabLFo
set_option linter.unusedVariables false
namespace Go.Proofs.Ytenkobgeflckdab.FireMore
open Go.ChangeShapes Go.WideShapes Go.ChangeAt Go.RowKit

theorem own : ownKnob Try.prog.godebug = none := by kernel_rfl
theorem laid : laidOutB Try.prog = true := by kernel_rfl

set_option maxRecDepth 100000 in
theorem lifted (os : Os) (started : os.Started) (H : Type) (enc : TypeId × Value → H) :
    ReturnsInHanded {} Try.checked os 4 .any (Rows.fireMoreSpec.pre6 enc Try.prog Try.f4 Rows.fireMoreRow.domain false) (Rows.fireMoreSpec.post enc Try.prog Try.f4 false true false false) := by
  refine returnsInHanded_of_change (C := Try.checked) own started (by kernel_rfl) Try.func4
    (ChangeSpec.witness6 (enc := enc) (C := Try.checked) false ⟨#[], #[.slice none 0 0, .slice none 0 0, .slice none 0 0], []⟩ 8 (by kernel_rfl) (by kernel_rfl) (by kernel_rfl) (by kernel_rfl)) ?_
  intro W base args ds gs before hval0 hW hcnd _
  have hval : ∀ (j : Nat) t v, Try.f4.params[j]? = some t → args[j]? = some v → Value.okWide Try.prog W .any base t v := hval0
  have hW' := hW
  obtain ⟨p, q, hA0, hV, rfl, hfz, hnd⟩ := hW
  have hA : DataW.TrodAll enc Try.prog W 0 (fun _ => true) true Try.f4.params.toList args.toList ds p := hA0
  rw [Try.params4] at hA hval
  obtain ⟨v0, vs0, d0, ds0, p0, q0, hargs, rfl, rfl, h0, r0⟩ := trodAll_cons hA
  obtain ⟨v1, vs1, d1, ds1, p1, q1, rfl, rfl, rfl, h1, r1⟩ := trodAll_cons r0
  obtain ⟨v2, vs2, d2, ds2, p2, q2, rfl, rfl, rfl, h2, r2⟩ := trodAll_cons r1
  obtain ⟨rfl, rfl, rfl⟩ := trodAll_nil r2
  obtain rfl : args = #[v0, v1, v2] := by cases args; simp_all
  obtain ⟨rfl, rfl⟩ := trodVars_none hV
  obtain ⟨n0, X0, hx0⟩ := ints_of_trod Try.underlying22 (by kernel_rfl) (by decide) (hval 0 22 v0 rfl rfl) h0 (allInts_raw Try.underlying56 Try.underlying3 Try.underlying3 ⟨rfl, rfl, rfl⟩ ⟨by kernel_rfl, by kernel_rfl, by kernel_rfl⟩ (allInts_array (C := 4) Try.underlying54 Try.underlying3 (by kernel_rfl)))
  obtain ⟨n1, X1, hx1⟩ := ints_of_trod Try.underlying22 (by kernel_rfl) (by decide) (hval 1 22 v1 rfl rfl) h1 (allInts_raw Try.underlying56 Try.underlying3 Try.underlying3 ⟨rfl, rfl, rfl⟩ ⟨by kernel_rfl, by kernel_rfl, by kernel_rfl⟩ (allInts_array (C := 4) Try.underlying54 Try.underlying3 (by kernel_rfl)))
  obtain ⟨n2, X2, hx2⟩ := ints_of_trod Try.underlying22 (by kernel_rfl) (by decide) (hval 2 22 v2 rfl rfl) h2 (allInts_raw Try.underlying56 Try.underlying3 Try.underlying3 ⟨rfl, rfl, rfl⟩ ⟨by kernel_rfl, by kernel_rfl, by kernel_rfl⟩ (allInts_array (C := 4) Try.underlying54 Try.underlying3 (by kernel_rfl)))
  refine (walk_FireMore W v0 n0 X0 hx0 v1 n1 X1 hx1 v2 n2 X2 hx2).mono fun e W' ⟨he, hg⟩ => ?_
  subst he
  exact ⟨_, rfl, law_post laid rfl hW' (by kernel_rfl) hg (tb := 4) rfl Try.underlying4 ⟨rfl, rfl, rfl⟩⟩

theorem over : Rows.fireMoreRow.holds Try.pinned (OpenSpec.ofChange Rows.fireMoreSpec) :=
  OpenClaim.holds_of_wide 4 Try.f4 rfl rfl rfl rfl rfl rfl rfl ⟨rfl, rfl, rfl, rfl, rfl⟩ rfl rfl rfl rfl rfl (by kernel_rfl) Try.func4 (by kernel_rfl)
    (of_decide_eq_true (by kernel_rfl)) (by unfold Func.isWrapper; first | (rw [if_pos (by decide +kernel)]; kernel_rfl) | (rw [if_neg (by decide +kernel)]; exact ⟨rfl, rfl⟩))
    (fun os started H enc _ => lifted os started H enc)

theorem proved : Rows.FireMoreSaid :=
  over
#print axioms proved
end Go.Proofs.Ytenkobgeflckdab.FireMore
