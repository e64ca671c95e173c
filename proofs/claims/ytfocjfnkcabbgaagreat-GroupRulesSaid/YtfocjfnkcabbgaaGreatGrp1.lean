/- group.Group: to its second loop. -/
import Derived.Test.YtfocjfnkcabbgaaGreatGrpP
import Derived.Deep.CutRange
set_option linter.unusedVariables false
set_option linter.unusedSimpArgs false
namespace Go.Proofs.YtfocjfnkcabbgaaGreat
open Go.RowKit Go.Shelf

set_option maxHeartbeats 1000000 in
set_option maxRecDepth 100000 in
/-- The closure that looks for a row. -/
theorem look_row (w : World) (bx : Nat) (xc yc : List Value) (r s : Rw) (hb : At w ⟨bx, 0, none⟩ xc) (hx : RowAt w xc r) (hy : RowAt w yc s) (h1 : 1 ≤ r.args.length) (h2 : 1 ≤ s.args.length) :
    Calls Tryz.prog 28 #[.agg yc.toArray, .pointer (some ⟨bx, 0, none⟩)] w fun e w' => e = .returned (.bool (alikeB r s)) ∧ New w w' := by
  obtain ⟨w1, hw1⟩ : ∃ w1, w1 = w.alloc (.cells yc.toArray 44) := ⟨_, rfl⟩
  have hN1 : New w w1 := by rw [hw1]; exact (Chg.refl _ _).alloc _
  have hB1 : Blk w1 w.heap.size 44 yc.toArray := by rw [hw1]; exact Blk.new w _ _
  have hal := alike_row w1 xc yc r s (hx.chg hN1) (hy.chg hN1) h1 h2
  have hbt := hb.chg hN1 id
  obtain ⟨b, hbe⟩ : ∃ b, alikeB r s = b := ⟨_, rfl⟩
  rw [hbe] at hal ⊢
  obtain ⟨A, c, rfl, _⟩ := hx
  obtain ⟨B, d, rfl, _⟩ := hy
  have Hal := Lib.hid hal
  have Hbt := Lib.hid hbt
  have HB1 := Lib.hid (show At w1 ⟨w.heap.size, 0, none⟩ [.string s.name, .slice B s.args.length d, .int .i64 s.stamp] from hB1.at_)
  have HN1 := Lib.hid hN1
  have HW1 := Lib.hid hw1
  clear hal hbt hB1 hN1 hw1 hb hbe
  go_enter Tryz.func28, Tryz.ntmps28
  go_upto_region 1 with fail
  rw [← HW1.out]
  go_wp2_with (first | ((with_reducible refine wpl_load rfl (.tmp 1) 44 rfl stRow ⟨bx, 0, none⟩ [.string r.name, .slice A r.args.length c, .int .i64 r.stamp] ?_ rfl Hbt.out ?_); exact rfl) | ((with_reducible refine wpl_load rfl (.tmp 2) 44 rfl stRow ⟨w.heap.size, 0, none⟩ [.string s.name, .slice B s.args.length d, .int .i64 s.stamp] ?_ rfl HB1.out ?_); exact rfl))
  refine Hal.out.mono ?_
  rintro e w2 ⟨rfl, hN2⟩
  have HN2 := Lib.hid (HN1.out.trans hN2 (fun _ _ x => x))
  clear hN2
  go_wp2_with fail
  go_ret
  exact ⟨rfl, HN2.out⟩
end Go.Proofs.YtfocjfnkcabbgaaGreat
