/- value.Number; results in a cell. -/
import Derived.Test.YtenkobgeflckdabMrgW
set_option linter.unusedVariables false
set_option linter.unusedSimpArgs false
namespace Go.Proofs.Ytenkobgeflckdab
open Go.RowKit Go.Shelf

theorem res_cellK {P : Program} {f : Func} {p : Nat} {ty : TypeId} {k : Nat} (hS : StT P ty k) (hr : f.results = #[.cell p ty]) (W : World) (tmps : Array Value) (ad : Addr) (cs : List Value) (h2 : tmps.getD p undef = .pointer (some ad)) (hc : At W ad cs) (hl : cs.length = k) :
    (results f tmps).run P W = .ok (.agg cs.toArray) W := by
  have hl := run_loadK (P := P) (w := W) hS ad cs hl hc
  have ha : (asAddr (.pointer (some ad))).run P W = .ok ad W := rfl
  rw [results_cell_one hr, h2, ha]
  simp only [Result.andThen_ok, hl]
set_option maxHeartbeats 1000000 in
theorem number_any (w : World) (n : Int) : Calls Try.prog 75 #[.int .i64 n] w fun e w' => e = .returned (.agg #[.int .i64 1, .int .i64 n, .string ⟨#[]⟩, .slice none 0 0]) ∧ New w w' := by
  have hb : Blk (w.alloc (.cells #[.int .i64 1, .int .i64 n, .string ⟨#[]⟩, .slice none 0 0] 46)) w.heap.size 46 [Value.int .i64 1, .int .i64 n, .string ⟨#[]⟩, .slice none 0 0].toArray := Blk.new w _ _
  have HB := Lib.hid hb
  clear hb
  go_enter Try.func75, Try.ntmps75
  go_wp2_with fail
  refine bodyPost_ret (v := .agg #[.int .i64 1, .int .i64 n, .string ⟨#[]⟩, .slice none 0 0]) (res_cellK stVal4 rfl _ _ ⟨w.heap.size, 0, none⟩ [Value.int .i64 1, .int .i64 n, .string ⟨#[]⟩, .slice none 0 0] rfl HB.out.at_ rfl) rfl ⟨rfl, (Chg.refl _ _).alloc _⟩
end Go.Proofs.Ytenkobgeflckdab
