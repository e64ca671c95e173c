/- bind.Eval, bind.Lookup, scope.is. -/
import Derived.Test.YtenkobgeflckdabEvO
set_option linter.unusedVariables false
set_option linter.unusedSimpArgs false
namespace Go.Proofs.Ytenkobgeflckdab
open Go.RowKit Go.Shelf

theorem TmAt.seven {w : World} {t : Tm} {cs : List Value} (h : TmAt w cs t) : ∃ t0 t1 t2 t3 t4 t5 t6, cs = [t0, t1, t2, t3, t4, t5, t6] := by
  have := h.len
  match cs, this with
  | [a, b, c, d, e, f, g], _ => exact ⟨_, _, _, _, _, _, _, rfl⟩

set_option maxHeartbeats 2000000 in
set_option maxRecDepth 100000 in
theorem bEval (A : Option Addr) (n c : Nat) (env : Env) (hn : n = env.length) (hm : n ≤ 1000) (hok : okEnv env) (t : Tm) (ht : okTm t) (w : World) (cs : List Value) (hs : SrcAt w A 5 (env.map bcs)) (hat : TmAt w cs t) :
    Calls Try.prog 45 #[.agg cs.toArray, .slice A n c] w fun e w' => e = .returned (optV (evalT env t)) ∧ New w w' := by
  have hk := fun W (hW : New w W) => eval_tm A n c env hn hm hok t ht W cs (hs.chg hW (fun _ _ => id)) (hat.chg hW)
  obtain ⟨u, q, hu⟩ : ∃ (u : Vl) (q : Bool), optV (evalT env t) = .tuple #[.agg (vcs u).toArray, .bool q] := ⟨_, _, rfl⟩
  rw [hu] at hk ⊢
  obtain ⟨t0, t1, t2, t3, t4, t5, t6, rfl⟩ := hat.seven
  obtain ⟨w1, hw1⟩ : ∃ w1, w1 = (w.alloc (.cells #[t0, t1, t2, t3, t4, t5, t6] 48)).alloc (.cells #[.int .i64 0, .int .i64 0, .string ⟨#[]⟩, .slice none 0 0] 46) := ⟨_, rfl⟩
  have hc : New w w1 := by rw [hw1]; exact ((Chg.refl w _).alloc _).alloc _
  have hb1 : At w1 ⟨w.heap.size, 0, none⟩ [t0, t1, t2, t3, t4, t5, t6] := by rw [hw1]; exact ((Blk.new w _ _).alloc _).at_
  have hb2 : Blk w1 (w.heap.size + 1) 46 #[.int .i64 0, .int .i64 0, .string ⟨#[]⟩, .slice none 0 0] := by
    rw [hw1]
    have := Blk.new (w.alloc (.cells #[t0, t1, t2, t3, t4, t5, t6] 48)) 46 #[.int .i64 0, .int .i64 0, .string ⟨#[]⟩, .slice none 0 0]
    rwa [World.size_alloc] at this
  have Hk := Lib.hid (hk w1 hc)
  have HB1 := Lib.hid hb1
  have HB2 := Lib.hid hb2
  have Hc := Lib.hid hc
  have HW := Lib.hid hw1
  clear hk hb1 hb2 hc hw1 hat hs hu hn ht hok
  go_enter Try.func45, Try.ntmps45
  go_wp2_with first
    | ((with_reducible refine wpl_load rfl (.tmp 2) 48 rfl stTerm ⟨w.heap.size, 0, none⟩ _ ?_ rfl (by rw [← HW.out]; exact HB1.out) ?_); exact rfl)
    | (go_at_call 54; rw [← HW.out]; refine Hk.out.mono ?_; rintro e w2 ⟨rfl, hc2⟩; replace HB2 := Lib.hid (HB2.out.chg hc2 id); replace Hc := Lib.hid (Hc.out.trans hc2 (fun _ _ x => x)); clear hc2)
    | ((with_reducible refine wpl_box rfl rfl 6 (.tmp 12) 46 rfl rfl rfl rfl stVal4 elValue.zero (vcs u) ?_ ?_ (vcl_len _) (vcl_one _) ?_); exact (by decide : 6 < 17); exact rfl; intro w4 hc4 hb4 hs4; replace HB2 := Lib.hid (HB2.out.chg hc4 id); replace Hc := Lib.hid (Hc.out.trans hc4 (fun _ _ x => x)); have Hb4 := Lib.hid (show At w4 ⟨w2.heap.size, 0, none⟩ [.int .i64 u.k, .int .i64 u.i, .string u.t, .slice none 0 0] from Blk.at_ (cs := vcs u) hb4); clear hc4 hb4 hs4)
    | ((with_reducible refine wpl_load rfl (.tmp 6) 46 rfl stVal4 ⟨w2.heap.size, 0, none⟩ [.int .i64 u.k, .int .i64 u.i, .string u.t, .slice none 0 0] ?_ rfl Hb4.out ?_); exact rfl)
    | (go_at_call 55; refine (bfresh_val _ u).mono ?_; rintro e w5 ⟨rfl, hc5⟩; replace HB2 := Lib.hid (HB2.out.chg hc5 id); replace Hc := Lib.hid (Hc.out.trans hc5 (fun _ _ x => x)); clear hc5)
    | ((with_reducible refine wpl_store rfl (.tmp 4) (.tmp 15) 46 rfl stVal4 (w.heap.size + 1) 0 46 _ (vcs u) ?_ ?_ HB2.out (vcl_len _) ?_ (vcl_one u) ?_); exact rfl; exact rfl; exact Nat.le_refl _)
  refine bodyPost_ret (v := .tuple #[.agg (vcs u).toArray, .bool q]) (res_cell2 (p := 4) (q := 5) stVal4 rfl _ _ ⟨w.heap.size + 1, 0, none⟩ (vcs u) rfl (stored_at HB2.out rfl) rfl) rfl ⟨rfl, Hc.out.setRow _ _ (fun h => absurd h (by omega))⟩

set_option maxHeartbeats 2000000 in
set_option maxRecDepth 100000 in
theorem bLookup (A : Option Addr) (n c : Nat) (env : Env) (hn : n = env.length) (hm : n ≤ 1000) (s : ByteArray) (w : World) (hs : SrcAt w A 5 (env.map bcs)) :
    Calls Try.prog 52 #[.slice A n c, .string s] w fun e w' => e = .returned (optV (lookE env s)) ∧ New w w' := by
  have hk := fun W (hW : New w W) => lookup_env W A n c env s hn hm (hs.chg hW (fun _ _ => id))
  obtain ⟨u, q, hu⟩ : ∃ (u : Vl) (q : Bool), optV (lookE env s) = .tuple #[.agg (vcs u).toArray, .bool q] := ⟨_, _, rfl⟩
  rw [hu] at hk ⊢
  obtain ⟨w1, hw1⟩ : ∃ w1, w1 = w.alloc (.cells #[.int .i64 0, .int .i64 0, .string ⟨#[]⟩, .slice none 0 0] 46) := ⟨_, rfl⟩
  have hc : New w w1 := by rw [hw1]; exact (Chg.refl w _).alloc _
  have hb2 : Blk w1 w.heap.size 46 #[.int .i64 0, .int .i64 0, .string ⟨#[]⟩, .slice none 0 0] := by rw [hw1]; exact Blk.new w _ _
  have Hk := Lib.hid (hk w1 hc)
  have HB2 := Lib.hid hb2
  have Hc := Lib.hid hc
  have HW := Lib.hid hw1
  clear hk hb2 hc hw1 hs hu hn
  go_enter Try.func52, Try.ntmps52
  go_wp2_with first
    | (go_at_call 62; rw [← HW.out]; refine Hk.out.mono ?_; rintro e w2 ⟨rfl, hc2⟩; replace HB2 := Lib.hid (HB2.out.chg hc2 id); replace Hc := Lib.hid (Hc.out.trans hc2 (fun _ _ x => x)); clear hc2)
    | ((with_reducible refine wpl_box rfl rfl 6 (.tmp 12) 46 rfl rfl rfl rfl stVal4 elValue.zero (vcs u) ?_ ?_ (vcl_len _) (vcl_one _) ?_); exact (by decide : 6 < 17); exact rfl; intro w4 hc4 hb4 hs4; replace HB2 := Lib.hid (HB2.out.chg hc4 id); replace Hc := Lib.hid (Hc.out.trans hc4 (fun _ _ x => x)); have Hb4 := Lib.hid (show At w4 ⟨w2.heap.size, 0, none⟩ [.int .i64 u.k, .int .i64 u.i, .string u.t, .slice none 0 0] from Blk.at_ (cs := vcs u) hb4); clear hc4 hb4 hs4)
    | ((with_reducible refine wpl_load rfl (.tmp 6) 46 rfl stVal4 ⟨w2.heap.size, 0, none⟩ [.int .i64 u.k, .int .i64 u.i, .string u.t, .slice none 0 0] ?_ rfl Hb4.out ?_); exact rfl)
    | (go_at_call 55; refine (bfresh_val _ u).mono ?_; rintro e w5 ⟨rfl, hc5⟩; replace HB2 := Lib.hid (HB2.out.chg hc5 id); replace Hc := Lib.hid (Hc.out.trans hc5 (fun _ _ x => x)); clear hc5)
    | ((with_reducible refine wpl_store rfl (.tmp 4) (.tmp 15) 46 rfl stVal4 w.heap.size 0 46 _ (vcs u) ?_ ?_ HB2.out (vcl_len _) ?_ (vcl_one u) ?_); exact rfl; exact rfl; exact Nat.le_refl _)
  refine bodyPost_ret (v := .tuple #[.agg (vcs u).toArray, .bool q]) (res_cell2 (p := 4) (q := 5) stVal4 rfl _ _ ⟨w.heap.size, 0, none⟩ (vcs u) rfl (stored_at HB2.out rfl) rfl) rfl ⟨rfl, Hc.out.setRow _ _ (fun h => absurd h (by omega))⟩

/-- Is a term a value? -/
def isV (env : Env) (t : Tm) (v : Vl) : Bool := match evalT env t with
  | some x => decide (cmpV x v = 0)
  | none => false

set_option maxHeartbeats 2000000 in
set_option maxRecDepth 100000 in
theorem bIs (A : Option Addr) (n c : Nat) (env : Env) (hn : n = env.length) (hm : n ≤ 1000) (hok : okEnv env) (t : Tm) (ht : okTm t) (v : Vl) (w : World) (cs : List Value) (hs : SrcAt w A 5 (env.map bcs)) (hat : TmAt w cs t) :
    Calls Try.prog 60 #[.slice A n c, .agg cs.toArray, .agg #[.int .i64 v.k, .int .i64 v.i, .string v.t, .slice none 0 0]] w fun e w' => e = .returned (.bool (isV env t v)) ∧ New w w' := by
  have hk := fun W (hW : New w W) => eval_tm A n c env hn hm hok t ht W cs (hs.chg hW (fun _ _ => id)) (hat.chg hW)
  have hres : isV env t v = match evalT env t with
    | some x => decide (cmpV x v = 0)
    | none => false := rfl
  obtain ⟨o, ho⟩ : ∃ o, evalT env t = o := ⟨_, rfl⟩
  rw [ho] at hk hres
  rw [hres]
  obtain ⟨t0, t1, t2, t3, t4, t5, t6, rfl⟩ := hat.seven
  obtain ⟨w1, hw1⟩ : ∃ w1, w1 = (w.alloc (.cells #[t0, t1, t2, t3, t4, t5, t6] 48)).alloc (.cells #[.int .i64 v.k, .int .i64 v.i, .string v.t, .slice none 0 0] 46) := ⟨_, rfl⟩
  have hc : New w w1 := by rw [hw1]; exact ((Chg.refl w _).alloc _).alloc _
  have hb1 : At w1 ⟨w.heap.size, 0, none⟩ [t0, t1, t2, t3, t4, t5, t6] := by rw [hw1]; exact ((Blk.new w _ _).alloc _).at_
  have hb2 : At w1 ⟨w.heap.size + 1, 0, none⟩ [.int .i64 v.k, .int .i64 v.i, .string v.t, .slice none 0 0] := by
    rw [hw1]
    have := Blk.new (w.alloc (.cells #[t0, t1, t2, t3, t4, t5, t6] 48)) 46 #[.int .i64 v.k, .int .i64 v.i, .string v.t, .slice none 0 0]
    rw [World.size_alloc] at this
    exact Blk.at_ this
  have Hk := Lib.hid (hk w1 hc)
  have HB1 := Lib.hid hb1
  have HB2 := Lib.hid hb2
  have Hc := Lib.hid hc
  have HW := Lib.hid hw1
  have HC := Lib.hid (fun W x => cmp_val x v W)
  clear hk hb1 hb2 hc hw1 hat hs hn ht hok ho hres
  go_enter Try.func60, Try.ntmps60
  cases o with
  | none =>
    unfold optV at Hk
    dsimp only [Option.getD, Option.isSome, vval, zV] at Hk
    go_wp2_with first
      | ((with_reducible refine wpl_load rfl (.tmp 4) 48 rfl stTerm ⟨w.heap.size, 0, none⟩ _ ?_ rfl (by rw [← HW.out]; exact HB1.out) ?_); exact rfl)
      | (go_at_call 54; rw [← HW.out]; refine Hk.out.mono ?_; rintro e w2 ⟨rfl, hc2⟩; replace HB2 := Lib.hid (HB2.out.chg hc2 id); replace Hc := Lib.hid (Hc.out.trans hc2 (fun _ _ x => x)); clear hc2)
      | ((with_reducible refine wpl_box rfl rfl 7 (.tmp 13) 46 rfl rfl rfl rfl stVal4 elValue.zero (vcs zV) ?_ ?_ (vcl_len _) (vcl_one _) ?_); exact (by decide : 7 < 22); exact rfl; intro w4 hc4 hb4 hs4; replace Hc := Lib.hid (Hc.out.trans hc4 (fun _ _ x => x)); clear hc4 hb4 hs4)
    go_ret
    exact ⟨rfl, Hc.out⟩
  | some u =>
    unfold optV at Hk
    dsimp only [Option.getD, Option.isSome, vval] at Hk
    go_wp2_with first
      | ((with_reducible refine wpl_load rfl (.tmp 4) 48 rfl stTerm ⟨w.heap.size, 0, none⟩ _ ?_ rfl (by rw [← HW.out]; exact HB1.out) ?_); exact rfl)
      | (go_at_call 54; rw [← HW.out]; refine Hk.out.mono ?_; rintro e w2 ⟨rfl, hc2⟩; replace HB2 := Lib.hid (HB2.out.chg hc2 id); replace Hc := Lib.hid (Hc.out.trans hc2 (fun _ _ x => x)); clear hc2)
      | ((with_reducible refine wpl_box rfl rfl 7 (.tmp 13) 46 rfl rfl rfl rfl stVal4 elValue.zero (vcs u) ?_ ?_ (vcl_len _) (vcl_one _) ?_); exact (by decide : 7 < 22); exact rfl; intro w4 hc4 hb4 hs4; replace HB2 := Lib.hid (HB2.out.chg hc4 id); replace Hc := Lib.hid (Hc.out.trans hc4 (fun _ _ x => x)); have Hb4 := Lib.hid (show At w4 ⟨w2.heap.size, 0, none⟩ [.int .i64 u.k, .int .i64 u.i, .string u.t, .slice none 0 0] from Blk.at_ (cs := vcs u) hb4); clear hc4 hb4 hs4)
      | ((with_reducible refine wpl_loadg ?_ (.tmp 7) 46 rfl stVal4 ⟨w2.heap.size, 0, none⟩ [.int .i64 u.k, .int .i64 u.i, .string u.t, .slice none 0 0] ?_ rfl Hb4.out ?_); rfl; exact rfl)
      | ((with_reducible refine wpl_loadg ?_ (.tmp 5) 46 rfl stVal4 ⟨w.heap.size + 1, 0, none⟩ [.int .i64 v.k, .int .i64 v.i, .string v.t, .slice none 0 0] ?_ rfl HB2.out ?_); rfl; exact rfl)
    refine (HC.out _ u).mono ?_
    rintro e w5 ⟨rfl, hc5⟩
    replace Hc := Lib.hid (Hc.out.trans hc5 (fun _ _ x => x))
    clear hc5
    go_wp2_with fail
    go_ret
    exact ⟨by first | rfl | (congr 2; simp), Hc.out⟩
end Go.Proofs.Ytenkobgeflckdab
