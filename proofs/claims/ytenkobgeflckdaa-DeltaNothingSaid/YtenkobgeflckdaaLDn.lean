/- The walk of DeltaNothing. -/
import Derived.Test.YtenkobgeflckdaaSl
set_option linter.unusedVariables false
set_option linter.unusedSimpArgs false
namespace Go.Proofs.Ytenkobgeflckdaa
open Go.RowKit Go.Shelf

set_option maxHeartbeats 4000000 in
set_option maxRecDepth 100000 in
theorem walk_DeltaNothing (w : World) (v : Value) (n : Nat) (X : Nat → Int) (hx : IntsAt w v 6 n X) :
    Calls Try.prog 9 #[v] w fun e w' => e = .returned (.bool true) ∧ New w w' := by
  have HX := Lib.hid hx
  clear hx
  go_enter Try.func9, Try.ntmps9
  go_wp2_with fail
  refine (awake13 _).mono ?_
  rintro e w1 ⟨rfl, hN1⟩
  have HR := Lib.hid (rows_sl w1 v n X (HX.out.chg hN1))
  have HN1 := Lib.hid hN1
  clear hN1
  go_wp2_with fail
  refine HR.out.mono ?_
  rintro e w2 ⟨vl, rs, rfl, hl, hl40, hg, hN2⟩
  have hc : ∀ r ∈ rs, canonR r := fun r hr => (hg r hr).can
  have HM := Lib.hid (merge_sl w2 vl rs hl)
  have HL := Lib.hid hl
  have HC := Lib.hid hc
  have HN2 := Lib.hid (HN1.out.trans hN2 (fun _ _ x => x))
  clear hl hg hN2 hc HR HN1 HX hl40
  go_wp2_with fail
  refine HM.out.mono ?_
  rintro e w3 ⟨vm, m, rfl, hm, hlm, hN3⟩
  have hL3 := HL.out.chg hN3
  have HD := Lib.hid (diff_sl w3 vl vm rs m hL3 hlm)
  have HL3 := Lib.hid hL3
  have HLm := Lib.hid hlm
  have HMm := Lib.hid hm
  have HN3 := Lib.hid (HN2.out.trans hN3 (fun _ _ x => x))
  clear hL3 hlm hm hN3 HL HM HN2
  go_wp2_with fail
  refine HD.out.mono ?_
  rintro e w4 ⟨a, b, u1, u2, rfl, ha, hb, h1, h2, hN4⟩
  have hb' := HMm.out.trans hb
  rw [diff_same ha hb' true] at h1
  rw [diff_same hb' ha false] at h2
  obtain ⟨A1, c1, rfl⟩ := h1.form0
  obtain ⟨A2, c2, rfl⟩ := h2.form0
  have hL4 := HL3.out.chg hN4
  have HD2 := Lib.hid (diff_sl w4 _ vl [] rs (RowSl.nil _) hL4)
  have HL4 := Lib.hid hL4
  have HLm4 := Lib.hid (HLm.out.chg hN4)
  have HN4 := Lib.hid (HN3.out.trans hN4 (fun _ _ x => x))
  clear ha hb h1 h2 hN4 hb' hL4 HD HL3 HLm HN3
  go_wp2_with fail
  refine HD2.out.mono ?_
  rintro e w5 ⟨a, b, u3, u4, rfl, ha, hb, h1, h2, hN5⟩
  obtain rfl := merge_nil ha
  obtain rfl := merge_uniq HC.out HMm.out hb
  rw [diff_nil] at h1
  obtain ⟨A4, c4, rfl⟩ := h2.form0
  have hL5 := HL4.out.chg hN5
  have HD3 := Lib.hid (diff_sl w5 vl _ rs [] hL5 (RowSl.nil _))
  have HLm5 := Lib.hid (HLm4.out.chg hN5)
  have H3 := Lib.hid h1
  have HN5 := Lib.hid (HN4.out.trans hN5 (fun _ _ x => x))
  clear ha hb h1 h2 hN5 hL5 HD2 HL4 HLm4 HN4
  go_wp2_with fail
  refine HD3.out.mono ?_
  rintro e w6 ⟨a, b, u5, u6, rfl, ha, hb, h1, h2, hN6⟩
  obtain rfl := merge_nil hb
  obtain rfl := merge_uniq HC.out HMm.out ha
  rw [diff_nil] at h2
  obtain ⟨A5, c5, rfl⟩ := h1.form0
  have hS1 := same_sl w6 u3 vm m (H3.out.chg hN6) (HLm5.out.chg hN6)
  have HS1 := Lib.hid hS1
  have H6 := Lib.hid h2
  have HLm6 := Lib.hid (HLm5.out.chg hN6)
  have HN6 := Lib.hid (HN5.out.trans hN6 (fun _ _ x => x))
  clear ha hb h1 h2 hN6 hS1 HD3 HLm5 HN5
  go_wp2_with fail
  refine HS1.out.mono ?_
  rintro e w7 ⟨rfl, hN7⟩
  have HS2 := Lib.hid (same_sl w7 u6 vm m (H6.out.chg hN7) (HLm6.out.chg hN7))
  have HN7 := Lib.hid (HN6.out.trans hN7 (fun _ _ x => x))
  clear hN7
  go_wp2_with fail
  refine HS2.out.mono ?_
  rintro e w8 ⟨rfl, hN8⟩
  have HN8 := Lib.hid (HN7.out.trans hN8 (fun _ _ x => x))
  clear hN8
  go_wp2_with fail
  go_ret
  exact ⟨rfl, HN8.out⟩
end Go.Proofs.Ytenkobgeflckdaa
