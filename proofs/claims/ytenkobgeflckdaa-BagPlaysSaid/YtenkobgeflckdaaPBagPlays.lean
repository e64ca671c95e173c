/- BagPlays: the statement. -/
import Derived.Test.YtenkobgeflckdaaOpen
import Derived.Test.YtenkobgeflckdaaL18h
set_option linter.unusedVariables false
namespace Go.Proofs.Ytenkobgeflckdaa.BagPlays
open Go.ChangeShapes Go.WideShapes Go.ChangeAt Go.RowKit

theorem own : ownKnob Try.prog.godebug = none := by kernel_rfl
theorem laid : laidOutB Try.prog = true := by kernel_rfl

set_option maxRecDepth 100000 in
theorem lifted (os : Os) (started : os.Started) (H : Type) (enc : TypeId × Value → H) :
    ReturnsInHanded {} Try.checked os 3 .any (Rows.bagPlaysSpec.pre6 enc Try.prog Try.f3 Rows.bagPlaysRow.domain false) (Rows.bagPlaysSpec.post enc Try.prog Try.f3 false true false false) := by
  refine returnsInHanded_of_change (C := Try.checked) own started (by kernel_rfl) Try.func3
    (ChangeSpec.witness6 (enc := enc) (C := Try.checked) false ⟨#[], #[.int .i64 0, .slice none 0 0], []⟩ 8 (by kernel_rfl) (by kernel_rfl) (by kernel_rfl) (by kernel_rfl)) ?_
  intro W base args ds gs before hval0 hW hcnd _
  have hval : ∀ (j : Nat) t v, Try.f3.params[j]? = some t → args[j]? = some v → Value.okWide Try.prog W .any base t v := hval0
  have hW' := hW
  obtain ⟨p, q, hA0, hV, rfl, hfz, hnd⟩ := hW
  have hA : DataW.TrodAll enc Try.prog W 0 (fun _ => true) true Try.f3.params.toList args.toList ds p := hA0
  rw [Try.params3] at hA hval
  obtain ⟨v0, vs0, d0, ds0, p0, q0, hargs, rfl, rfl, h0, r0⟩ := trodAll_cons hA
  obtain ⟨v1, vs1, d1, ds1, p1, q1, rfl, rfl, rfl, h1, r1⟩ := trodAll_cons r0
  obtain ⟨rfl, rfl, rfl⟩ := trodAll_nil r1
  obtain rfl : args = #[v0, v1] := by cases args; simp_all
  obtain ⟨rfl, rfl⟩ := trodVars_none hV
  obtain ⟨n, X, hx⟩ := ints_of_trod Try.underlying22 (by kernel_rfl) (by decide) (hval 1 22 v1 rfl rfl) h1 (allInts_struct (C := 3) Try.underlying29 rfl (by kernel_rfl) (fun j f hj => by
    match j, hj with
    | 0, hj => cases hj; exact Try.underlying3
    | 1, hj => cases hj; exact Try.underlying3
    | 2, hj => cases hj; exact Try.underlying3
    | j + 3, hj => simp at hj))
  obtain ⟨a0, rfl, rfl, rfl, w0⟩ := open_int Try.underlying3 (hval 0 3 v0 rfl rfl) h0
  refine (walk_BagPlays W a0 v1 n X hx).mono fun e W' ⟨he, hg⟩ => ?_
  subst he
  exact ⟨_, rfl, law_post laid rfl hW' (by kernel_rfl) hg (tb := 4) rfl Try.underlying4 ⟨rfl, rfl, rfl⟩⟩

theorem over : Rows.bagPlaysRow.holds Try.pinned (OpenSpec.ofChange Rows.bagPlaysSpec) :=
  OpenClaim.holds_of_wide 3 Try.f3 rfl rfl rfl rfl rfl rfl rfl ⟨rfl, rfl, rfl, rfl, rfl⟩ rfl rfl rfl rfl rfl (by kernel_rfl) Try.func3 (by kernel_rfl)
    (of_decide_eq_true (by kernel_rfl)) (by unfold Func.isWrapper; first | (rw [if_pos (by decide +kernel)]; kernel_rfl) | (rw [if_neg (by decide +kernel)]; exact ⟨rfl, rfl⟩))
    (fun os started H enc _ => lifted os started H enc)

theorem proved : Rows.BagPlaysSaid :=
  over
#print axioms proved
end Go.Proofs.Ytenkobgeflckdaa.BagPlays
