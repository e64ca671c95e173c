/- bind: scope.eval. -/
import Derived.Test.YtenkobgeflckdabEvP
import Derived.Test.YtenkobgeflckdabFrs
set_option linter.unusedVariables false
set_option linter.unusedSimpArgs false
namespace Go.Proofs.Ytenkobgeflckdab
open Go.RowKit Go.Shelf

set_option maxHeartbeats 2000000 in
set_option maxRecDepth 100000 in
theorem eval_var (w : World) (A : Option Addr) (n c : Nat) (env : Env) (s : ByteArray) (hn : n = env.length) (hm : n ≤ 1000) (hs : SrcAt w A 5 (env.map bcs)) :
    Calls Try.prog 54 #[.slice A n c, .agg #[.int .i64 1, .string s, .int .i64 0, .int .i64 0, .string ⟨#[]⟩, .slice none 0 0, .slice none 0 0]] w fun e w' => e = .returned (optV (lookE env s)) ∧ New w w' := by
  obtain ⟨w1, hw1⟩ : ∃ w1, w1 = (w.alloc (.cells #[.int .i64 1, .string s, .int .i64 0, .int .i64 0, .string ⟨#[]⟩, .slice none 0 0, .slice none 0 0] 48)).alloc (.cells #[.int .i64 0, .int .i64 0, .string ⟨#[]⟩, .slice none 0 0] 46) := ⟨_, rfl⟩
  have hc : New w w1 := by rw [hw1]; exact ((Chg.refl w _).alloc _).alloc _
  have hb2 : Blk w1 (w.heap.size + 1) 46 #[.int .i64 0, .int .i64 0, .string ⟨#[]⟩, .slice none 0 0] := by
    rw [hw1]
    have := Blk.new (w.alloc (.cells #[.int .i64 1, .string s, .int .i64 0, .int .i64 0, .string ⟨#[]⟩, .slice none 0 0, .slice none 0 0] 48)) 46 #[.int .i64 0, .int .i64 0, .string ⟨#[]⟩, .slice none 0 0]
    rwa [World.size_alloc] at this
  have hl := lookup_env w1 A n c env s hn hm (hs.chg hc (fun _ _ => id))
  obtain ⟨u, q, hu⟩ : ∃ (u : Vl) (q : Bool), optV (lookE env s) = .tuple #[.agg (vcs u).toArray, .bool q] := ⟨_, _, rfl⟩
  rw [hu] at hl ⊢
  have Hl := Lib.hid hl
  have Hb2 := Lib.hid hb2
  have Hc := Lib.hid hc
  have HW := Lib.hid hw1
  clear hl hb2 hc hw1 hu hs hn
  go_enter Try.func54, Try.ntmps54
  go_wp2_with first
    | (go_at_call 62; rw [← HW.out]; refine Hl.out.mono ?_; rintro e w2 ⟨rfl, hc2⟩; replace Hb2 := Lib.hid (Hb2.out.chg hc2 id); replace Hc := Lib.hid (Hc.out.trans hc2 (fun _ _ x => x)); clear hc2)
    | ((with_reducible refine wpl_store rfl (.tmp 4) (.tmp 16) 46 rfl stVal4 (w.heap.size + 1) 0 46 _ (vcs u) ?_ ?_ Hb2.out (vcl_len _) ?_ (vcl_one u) ?_); exact rfl; exact rfl; exact Nat.le_refl _)
  refine bodyPost_ret (v := .tuple #[.agg (vcs u).toArray, .bool q]) (res_cell2 (p := 4) (q := 5) stVal4 rfl _ _ ⟨w.heap.size + 1, 0, none⟩ (vcs u) rfl (stored_at Hb2.out rfl) rfl) rfl ⟨rfl, Hc.out.setRow _ _ (fun h => absurd h (by omega))⟩

set_option maxHeartbeats 2000000 in
set_option maxRecDepth 100000 in
theorem eval_lit (w : World) (sc : Value) (v : Vl) :
    Calls Try.prog 54 #[sc, .agg #[.int .i64 2, .string ⟨#[]⟩, .int .i64 v.k, .int .i64 v.i, .string v.t, .slice none 0 0, .slice none 0 0]] w fun e w' => e = .returned (optV (some v)) ∧ New w w' := by
  obtain ⟨w1, hw1⟩ : ∃ w1, w1 = (w.alloc (.cells #[.int .i64 2, .string ⟨#[]⟩, .int .i64 v.k, .int .i64 v.i, .string v.t, .slice none 0 0, .slice none 0 0] 48)).alloc (.cells #[.int .i64 0, .int .i64 0, .string ⟨#[]⟩, .slice none 0 0] 46) := ⟨_, rfl⟩
  have hc : New w w1 := by rw [hw1]; exact ((Chg.refl w _).alloc _).alloc _
  have hb2 : Blk w1 (w.heap.size + 1) 46 #[.int .i64 0, .int .i64 0, .string ⟨#[]⟩, .slice none 0 0] := by
    rw [hw1]
    have := Blk.new (w.alloc (.cells #[.int .i64 2, .string ⟨#[]⟩, .int .i64 v.k, .int .i64 v.i, .string v.t, .slice none 0 0, .slice none 0 0] 48)) 46 #[.int .i64 0, .int .i64 0, .string ⟨#[]⟩, .slice none 0 0]
    rwa [World.size_alloc] at this
  have Hb2 := Lib.hid hb2
  have Hc := Lib.hid hc
  have HW := Lib.hid hw1
  clear hb2 hc hw1
  go_enter Try.func54, Try.ntmps54
  go_wp2_with ((with_reducible refine wpl_store rfl (.tmp 4) (.tmp 21) 46 rfl stVal4 (w.heap.size + 1) 0 46 _ (vcs v) ?_ ?_ (by rw [← HW.out]; exact Hb2.out) (vcl_len _) ?_ (vcl_one v) ?_); exact rfl; exact rfl; exact Nat.le_refl _)
  rw [← HW.out]
  refine bodyPost_ret (v := .tuple #[.agg (vcs v).toArray, .bool true]) (res_cell2 (p := 4) (q := 5) stVal4 rfl _ _ ⟨w.heap.size + 1, 0, none⟩ (vcs v) rfl (stored_at Hb2.out rfl) rfl) rfl ⟨rfl, Hc.out.setRow _ _ (fun h => absurd h (by omega))⟩
end Go.Proofs.Ytenkobgeflckdab
