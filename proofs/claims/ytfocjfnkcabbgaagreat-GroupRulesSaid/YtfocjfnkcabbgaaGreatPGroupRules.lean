/- GroupRules: the statement. -/
import Derived.Test.YtfocjfnkcabbgaaGreatOpenR
import Derived.Test.YtfocjfnkcabbgaaGreatLGr
set_option linter.unusedVariables false
namespace Go.Proofs.YtfocjfnkcabbgaaGreat.GroupRules
open Go.ChangeShapes Go.WideShapes Go.ChangeAt Go.RowKit

theorem own : ownKnob Tryz.prog.godebug = none := by kernel_rfl
theorem laid : laidOutB Tryz.prog = true := by kernel_rfl

set_option maxRecDepth 100000 in
theorem lifted (os : Os) (started : os.Started) (H : Type) (enc : TypeId × Value → H) :
    ReturnsInHanded {} Tryz.checked os 3 .any (Rows.groupRulesSpec.pre6 enc Tryz.prog Tryz.f3 Rows.groupRulesRow.domain false) (Rows.groupRulesSpec.post enc Tryz.prog Tryz.f3 false true false false) := by
  refine returnsInHanded_of_change (C := Tryz.checked) own started (by kernel_rfl) Tryz.func3
    (ChangeSpec.witness6 (enc := enc) (C := Tryz.checked) false ⟨#[], #[.slice none 0 0, .slice none 0 0, .int .i64 0], []⟩ 8 (by kernel_rfl) (by kernel_rfl) (by kernel_rfl) (by kernel_rfl)) ?_
  intro W base args ds gs before hval0 hW hcnd _
  have hval : ∀ (j : Nat) t v, Tryz.f3.params[j]? = some t → args[j]? = some v → Value.okWide Tryz.prog W .any base t v := hval0
  have hW' := hW
  obtain ⟨p, q, hA0, hV, rfl, hfz, hnd⟩ := hW
  have hA : DataW.TrodAll enc Tryz.prog W 0 (fun _ => true) true Tryz.f3.params.toList args.toList ds p := hA0
  rw [Tryz.params3] at hA hval
  obtain ⟨v0, vs0, d0, ds0, p0, q0, hargs, rfl, rfl, h0, r0⟩ := trodAll_cons hA
  obtain ⟨v1, vs1, d1, ds1, p1, q1, rfl, rfl, rfl, h1, r1⟩ := trodAll_cons r0
  obtain ⟨v2, vs2, d2, ds2, p2, q2, rfl, rfl, rfl, h2, r2⟩ := trodAll_cons r1
  obtain ⟨rfl, rfl, rfl⟩ := trodAll_nil r2
  obtain rfl : args = #[v0, v1, v2] := by cases args; simp_all
  obtain ⟨rfl, rfl⟩ := trodVars_none hV
  obtain ⟨n0, X0, hx0⟩ := ints_of_trod Tryz.underlying22 (by kernel_rfl) (by decide) (hval 0 22 v0 rfl rfl) h0 (allInts_raw Tryz.underlying48 Tryz.underlying3 Tryz.underlying3 ⟨rfl, rfl, rfl⟩ ⟨by kernel_rfl, by kernel_rfl, by kernel_rfl⟩ (allInts_array (C := 4) Tryz.underlying46 Tryz.underlying3 (by kernel_rfl)))
  obtain ⟨n1, X1, hx1⟩ := ints_of_trod Tryz.underlying22 (by kernel_rfl) (by decide) (hval 1 22 v1 rfl rfl) h1 (allInts_raw Tryz.underlying48 Tryz.underlying3 Tryz.underlying3 ⟨rfl, rfl, rfl⟩ ⟨by kernel_rfl, by kernel_rfl, by kernel_rfl⟩ (allInts_array (C := 4) Tryz.underlying46 Tryz.underlying3 (by kernel_rfl)))
  obtain ⟨a2, rfl, rfl, rfl, w2⟩ := open_int Tryz.underlying3 (hval 2 3 v2 rfl rfl) h2
  simp only [Lit.wf, Bool.and_eq_true, decide_eq_true_eq] at w2
  refine (walk_GroupRules W v0 n0 X0 hx0 v1 n1 X1 hx1 a2 w2.1 w2.2).mono fun e W' ⟨he, hg⟩ => ?_
  subst he
  exact ⟨_, rfl, law_post laid rfl hW' (by kernel_rfl) hg (tb := 4) rfl Tryz.underlying4 ⟨rfl, rfl, rfl⟩⟩

theorem over : Rows.groupRulesRow.holds Tryz.pinned (OpenSpec.ofChange Rows.groupRulesSpec) :=
  OpenClaim.holds_of_wide 3 Tryz.f3 rfl rfl rfl rfl rfl rfl rfl ⟨rfl, rfl, rfl, rfl, rfl⟩ rfl rfl rfl rfl rfl (by kernel_rfl) Tryz.func3 (by kernel_rfl)
    (of_decide_eq_true (by kernel_rfl)) (by unfold Func.isWrapper; first | (rw [if_pos (by decide +kernel)]; kernel_rfl) | (rw [if_neg (by decide +kernel)]; exact ⟨rfl, rfl⟩))
    (fun os started H enc _ => lifted os started H enc)

theorem proved : Rows.GroupRulesSaid :=
  over
#print axioms proved
end Go.Proofs.YtfocjfnkcabbgaaGreat.GroupRules
