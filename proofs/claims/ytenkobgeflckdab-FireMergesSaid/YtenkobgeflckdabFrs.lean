/- bind.fresh, bind.Lookup at values without lists. -/
import Derived.Test.YtenkobgeflckdabLkp
set_option linter.unusedVariables false
set_option linter.unusedSimpArgs false
namespace Go.Proofs.Ytenkobgeflckdab
open Go.RowKit Go.Shelf

set_option maxHeartbeats 2000000 in
set_option maxRecDepth 100000 in
theorem bfresh_val (w : World) (v : Vl) : Calls Try.prog 55 #[.agg #[.int .i64 v.k, .int .i64 v.i, .string v.t, .slice none 0 0]] w fun e w' => e = .returned (.agg (vcs v).toArray) ∧ New w w' := by
  have hb2 : Blk ((w.alloc (.cells #[.int .i64 v.k, .int .i64 v.i, .string v.t, .slice none 0 0] 46)).alloc (.cells #[.int .i64 v.k, .int .i64 v.i, .string v.t, .slice none 0 0] 46)) (w.heap.size + 1) 46 #[.int .i64 v.k, .int .i64 v.i, .string v.t, .slice none 0 0] := by
    have := Blk.new (w.alloc (.cells #[.int .i64 v.k, .int .i64 v.i, .string v.t, .slice none 0 0] 46)) 46 #[.int .i64 v.k, .int .i64 v.i, .string v.t, .slice none 0 0]
    rwa [World.size_alloc] at this
  have Hb := Lib.hid hb2
  clear hb2
  go_enter Try.func55, Try.ntmps55
  go_wp2_with fail
  refine bodyPost_ret (v := .agg (vcs v).toArray) (res_cellK stVal4 rfl _ _ ⟨w.heap.size + 1, 0, none⟩ (vcs v) rfl Hb.out.vcs rfl) rfl ⟨rfl, ((Chg.refl w _).alloc _).alloc _⟩
end Go.Proofs.Ytenkobgeflckdab
