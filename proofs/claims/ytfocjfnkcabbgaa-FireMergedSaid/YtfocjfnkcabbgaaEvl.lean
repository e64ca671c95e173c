/- bind: scope.lookup over bindings; Terms, and what they are worth: plain; how they lie in memory; bind.fresh, bind.Lookup at values without lists; bind: scope.eval. -/
import Derived.Test.YtfocjfnkcabbgaaBnd
import Derived.Test.YtfocjfnkcabbgaaOp
import Derived.Test.YtfocjfnkcabbgaaOpenR
set_option linter.unusedVariables false
set_option linter.unusedSimpArgs false
namespace Go.Proofs.Ytfocjfnkcabbgaa
open Go.RowKit Go.Shelf

/-- What is bound. -/
abbrev Env := List (ByteArray × Vl)
def bcs (p : ByteArray × Vl) : List Value := [.string p.1, .int .i64 p.2.k, .int .i64 p.2.i, .string p.2.t, .slice none 0 0]
def lookE (env : Env) (s : ByteArray) : Option Vl := (env.find? (fun p => decide (p.1 = s))).map (·.2)
theorem bcs_len (p : ByteArray × Vl) : (bcs p).length = 5 := rfl
theorem bcs_one (env : Env) : ∀ cs ∈ env.map bcs, ∀ u ∈ cs, u.oneCell' = true := by
  intro cs hc u hu
  obtain ⟨p, _, rfl⟩ := List.mem_map.1 hc
  simp only [bcs, List.mem_cons, List.not_mem_nil, or_false] at hu
  rcases hu with rfl | rfl | rfl | rfl | rfl <;> rfl
theorem nmB_eq (a b : ByteArray) : (a.toList == b.toList) = decide (a = b) := by
  by_cases h : a = b
  · simp [h]
  · rw [decide_eq_false h, beq_eq_false_iff_ne]
    exact fun e => h (ByteArray.ext (Array.toList_inj.1 (by rw [← ByteArray.toList_eq, ← ByteArray.toList_eq]; exact e)))
def nameOf (cs : List Value) : ByteArray := match cs with | .string s :: _ => s | _ => ⟨#[]⟩

set_option maxHeartbeats 1000000 in
theorem look1 (w : World) (p : ByteArray × Vl) (s : ByteArray) (a : Addr) (ha : w.cell? a = some (.string s)) :
    Calls Try.prog 66 #[.agg (bcs p).toArray, .pointer (some a)] w fun e w' => e = .returned (.bool (decide (p.1 = s))) ∧ New w w' := by
  have hc1 : New w (w.alloc (.cells #[.string p.1, .int .i64 p.2.k, .int .i64 p.2.i, .string p.2.t, .slice none 0 0] 98)) := (Chg.refl w _).alloc _
  have ha1 := hc1.cellS ha id
  have Hc := Lib.hid hc1
  clear hc1
  unfold bcs
  go_enter Try.func66, Try.ntmps66
  go_wp2_with fail
  go_ret
  refine ⟨congrArg (fun b => Ending.returned (.bool b)) (nmB_eq p.1 s), Hc.out⟩

theorem look_some {env : Env} {s : ByteArray} {i : Nat} (h : (env.map bcs).findIdx? (fun cs => decide (nameOf cs = s)) = some i) : ∃ p, env[i]? = some p ∧ lookE env s = some p.2 := by
  rw [List.findIdx?_eq_some_iff_getElem] at h
  obtain ⟨hlt, hp, hno⟩ := h
  rw [List.length_map] at hlt
  simp only [List.getElem_map] at hp hno
  refine ⟨env[i], List.getElem?_eq_getElem hlt, ?_⟩
  unfold lookE
  have hf : env.find? (fun p => decide (p.1 = s)) = some env[i] := by
    rw [List.find?_eq_some_iff_getElem]
    exact ⟨hp, i, hlt, rfl, fun j hj => by have := hno j hj; simp only [nameOf, bcs] at this; have h2 : ¬ env[j].1 = s := fun e => this (decide_eq_true e); rw [decide_eq_false h2]; rfl⟩
  rw [hf]
  rfl
theorem look_none {env : Env} {s : ByteArray} (h : (env.map bcs).findIdx? (fun cs => decide (nameOf cs = s)) = none) : lookE env s = none := by
  rw [List.findIdx?_eq_none_iff] at h
  unfold lookE
  have : env.find? (fun p => decide (p.1 = s)) = none := by
    rw [List.find?_eq_none]
    intro p hp
    have := h (bcs p) (List.mem_map.2 ⟨p, hp, rfl⟩)
    simp only [nameOf, bcs] at this
    intro h
    exact absurd (of_decide_eq_true h) (of_decide_eq_false this)
  rw [this]
  rfl

set_option maxHeartbeats 1000000 in
set_option maxRecDepth 100000 in
theorem lookup_env (w : World) (A : Option Addr) (n c : Nat) (env : Env) (s : ByteArray) (hn : n = env.length) (hm : n ≤ 1000) (hs : SrcAt w A 5 (env.map bcs)) :
    Calls Try.prog 59 #[.slice A n c, .string s] w fun e w' => e = .returned (optV (lookE env s)) ∧ New w w' := by
  have eg := enters_of Try.func66 (by kernel_rfl) rfl
  have hb1 : Blk ((w.alloc (.cells #[.string s] 9)).alloc (.cells #[.int .i64 0, .int .i64 0, .string ⟨#[]⟩, .slice none 0 0] 37)) w.heap.size 9 #[.string s] := (Blk.new w _ _).alloc _
  have hb2 : Blk ((w.alloc (.cells #[.string s] 9)).alloc (.cells #[.int .i64 0, .int .i64 0, .string ⟨#[]⟩, .slice none 0 0] 37)) (w.heap.size + 1) 37 #[.int .i64 0, .int .i64 0, .string ⟨#[]⟩, .slice none 0 0] := by
    have := Blk.new (w.alloc (.cells #[.string s] 9)) 37 #[.int .i64 0, .int .i64 0, .string ⟨#[]⟩, .slice none 0 0]
    rwa [World.size_alloc] at this
  have hc : New w ((w.alloc (.cells #[.string s] 9)).alloc (.cells #[.int .i64 0, .int .i64 0, .string ⟨#[]⟩, .slice none 0 0] 37)) := ((Chg.refl w _).alloc _).alloc _
  obtain ⟨w1, hw1⟩ : ∃ w1, w1 = (w.alloc (.cells #[.string s] 9)).alloc (.cells #[.int .i64 0, .int .i64 0, .string ⟨#[]⟩, .slice none 0 0] 37) := ⟨_, rfl⟩
  rw [← hw1] at hb1 hb2 hc
  have hs1 := hs.chg hc (fun _ _ => id)
  have hidx := idxBind w1 A n c (env.map bcs) (by rw [List.length_map]; exact hn) (by unfold maxLen; omega) hs1 66 #[.pointer (some ⟨w.heap.size, 0, none⟩)] eg (fun cs => decide (nameOf cs = s)) (fun _ => False) (fun cs hcs W hW => by
    obtain ⟨p, _, rfl⟩ := List.mem_map.1 hcs
    exact look1 W p s ⟨w.heap.size, 0, none⟩ ((hb1.chg hW id).cell 0))
  have Hidx := Lib.hid hidx
  have Hb2 := Lib.hid hb2
  have Hc := Lib.hid hc
  have HW := Lib.hid hw1
  have Hs := Lib.hid hs1
  have Hn := Lib.hid hn
  clear hidx hb1 hb2 hc hw1 hs hs1 hn eg
  go_enter Try.func59, Try.ntmps59
  cases hl : (env.map bcs).findIdx? (fun cs => decide (nameOf cs = s)) with
  | none =>
    have hR := look_none hl
    have HL := Lib.hid hl
    rw [hR]
    clear hl hR
    go_wp2_with first
      | (rw [← HW.out]; go_at_call 65; refine Hidx.out.mono ?_; rintro e w2 (⟨i, hi, rfl, hc2⟩ | ⟨hi, rfl, hc2⟩); (exact absurd (HL.out.symm.trans hi) (by simp)); replace Hb2 := Lib.hid (Hb2.out.chg hc2 id); replace Hc := Lib.hid (Hc.out.trans hc2 (fun _ _ x => x)); clear hc2 hi)
      | ((with_reducible refine wpl_store rfl (.tmp 4) (.tmp 12) 37 rfl stVal4 (w.heap.size + 1) 0 37 _ (vcs zV) ?_ ?_ Hb2.out (vcl_len _) ?_ (vcl_one zV) ?_); exact rfl; exact rfl; exact Nat.le_refl _)
    refine bodyPost_ret (v := .tuple #[.agg (vcs zV).toArray, .bool false]) (res_cell2 (p := 4) (q := 5) stVal4 rfl _ _ ⟨w.heap.size + 1, 0, none⟩ (vcs zV) rfl (stored_at Hb2.out rfl) rfl) rfl ⟨rfl, Hc.out.setRow _ _ (fun h => absurd h (by omega))⟩
  | some i =>
    obtain ⟨p, hp, hR⟩ := look_some hl
    obtain ⟨ad, rfl, hrw⟩ := Hs.out (by rw [List.length_map]; have := (List.getElem?_eq_some_iff.1 hp).1; omega)
    have hat := (hrw i (bcs p) (by rw [List.getElem?_map, hp]; rfl)).2
    have hilt : i < n := by rw [Hn.out]; exact (List.getElem?_eq_some_iff.1 hp).1
    have hv : At w1 ⟨(ad.add (i * 5)).block, (ad.add (i * 5)).off + 1, none⟩ (vcs p.2) := fun j u hj => by
      have := hat (j + 1) u (by simpa [bcs, vcs] using hj)
      rw [add_add, show i * 5 + (j + 1) = (i * 5 + j) + 1 by omega, add_succ] at this
      rw [Addr.add_lit, add_block, add_offs]
      rwa [show ad.off + i * 5 + 1 + j = ad.off + (i * 5 + j + 1) by omega]
    have HL := Lib.hid hl
    have Hv := Lib.hid hv
    rw [hR]
    clear hl hR hat hv hrw hp
    go_wp2_with first
      | (rw [← HW.out]; go_at_call 65; refine Hidx.out.mono ?_; rintro e w2 (⟨k, hi, rfl, hc2⟩ | ⟨hi, rfl, hc2⟩); (rotate_left; exact absurd (HL.out.symm.trans hi) (by simp)); obtain rfl : i = k := by simpa using HL.out.symm.trans hi
         replace Hb2 := Lib.hid (Hb2.out.chg hc2 id); replace Hv := Lib.hid (Hv.out.chg hc2 id); replace Hc := Lib.hid (Hc.out.trans hc2 (fun _ _ x => x)); clear hc2 hi)
      | ((with_reducible refine wpl_load rfl (.tmp 16) 37 rfl stVal4 ⟨(ad.add (i * 5)).block, (ad.add (i * 5)).off + 1, none⟩ (vcs p.2) ?_ (vcl_len _) Hv.out ?_); exact rfl)
      | ((with_reducible refine wpl_store rfl (.tmp 4) (.tmp 17) 37 rfl stVal4 (w.heap.size + 1) 0 37 _ (vcs p.2) ?_ ?_ Hb2.out (vcl_len _) ?_ (vcl_one p.2) ?_); exact rfl; exact rfl; exact Nat.le_refl _)
    refine bodyPost_ret (v := .tuple #[.agg (vcs p.2).toArray, .bool true]) (res_cell2 (p := 4) (q := 5) stVal4 rfl _ _ ⟨w.heap.size + 1, 0, none⟩ (vcs p.2) rfl (stored_at Hb2.out rfl) rfl) rfl ⟨rfl, Hc.out.setRow _ _ (fun h => absurd h (by omega))⟩
end Go.Proofs.Ytfocjfnkcabbgaa

set_option linter.unusedVariables false
set_option linter.unusedSimpArgs false
namespace Go.Proofs.Ytfocjfnkcabbgaa
open Go.RowKit

/-- Terms of the raw worlds. -/
inductive Tm where
  | var (s : ByteArray)
  | val (v : Vl)
  | op (m : Bool) (a b : Tm)

def evalT (env : Env) : Tm → Option Vl
  | .var s => lookE env s
  | .val v => some v
  | .op m a b => match evalT env a, evalT env b with
    | some x, some y => opV m x y
    | _, _ => none

def okW (v : Vl) : Prop := okV v ∧ -9223372036854775808 ≤ v.i ∧ v.i ≤ 9223372036854775807
def okTm : Tm → Prop
  | .var _ => True
  | .val v => okW v
  | .op _ a b => okTm a ∧ okTm b
def okEnv (env : Env) : Prop := ∀ p ∈ env, okW p.2

theorem lookE_ok {env : Env} (h : okEnv env) {s : ByteArray} {v : Vl} (hv : lookE env s = some v) : okW v := by
  unfold lookE at hv
  cases hf : env.find? (fun p => decide (p.1 = s)) with
  | none => rw [hf] at hv; cases hv
  | some p =>
    rw [hf] at hv
    cases hv
    exact h p (List.mem_of_find?_eq_some hf)
theorem okR_ok {n : Int} {v : Vl} (hv : okR ⟨1, n, ⟨#[]⟩⟩ = some v) : okW v := by
  unfold okR at hv
  by_cases h : rightV ⟨1, n, ⟨#[]⟩⟩ = true
  · rw [if_pos h] at hv
    cases hv
    simp only [rightV, ne_eq, not_true_eq_false, decide_false, Bool.false_or, Bool.and_eq_true, decide_eq_true_eq] at h
    exact ⟨.inl ⟨rfl, rfl⟩, by dsimp only at h ⊢; omega, by dsimp only at h ⊢; omega⟩
  · rw [if_neg h] at hv
    cases hv
theorem opV_ok {m : Bool} {a b v : Vl} (hv : opV m a b = some v) : okW v := by
  unfold opV at hv
  by_cases h : a.k = 1 ∧ b.k = 1 ∧ rightV a = true ∧ rightV b = true
  · rw [if_pos h] at hv
    exact okR_ok hv
  · rw [if_neg h] at hv
    cases hv
theorem evalT_ok {env : Env} (h : okEnv env) : ∀ {t : Tm}, okTm t → ∀ {v : Vl}, evalT env t = some v → okW v
  | .var s, _, v, hv => lookE_ok h hv
  | .val u, hu, v, hv => by cases hv; exact hu
  | .op m a b, _, v, hv => by
    unfold evalT at hv
    split at hv
    · exact opV_ok hv
    · cases hv

/-- A term's cells. -/
def TmAt (w : World) : List Value → Tm → Prop
  | cs, .var s => cs = [.int .i64 1, .string s] ++ vcs zV ++ [.slice none 0 0]
  | cs, .val v => cs = [.int .i64 2, .string ⟨#[]⟩] ++ vcs v ++ [.slice none 0 0]
  | cs, .op m a b => ∃ ad c ca cb, cs = [.int .i64 4, .string (opS m)] ++ vcs zV ++ [.slice (some ad) 2 c] ∧ ad.block < w.heap.size ∧ RowsAt w ad 7 [ca, cb] ∧ TmAt w ca a ∧ TmAt w cb b
theorem TmAt.chg {w w' : World} (hc : New w w') : ∀ {t : Tm} {cs : List Value}, TmAt w cs t → TmAt w' cs t
  | .var s, cs, h => h
  | .val v, cs, h => h
  | .op m a b, cs, ⟨ad, c, ca, cb, h1, h2, h3, h4, h5⟩ => ⟨ad, c, ca, cb, h1, Nat.lt_of_lt_of_le h2 hc.size, h3.chg hc id, TmAt.chg hc h4, TmAt.chg hc h5⟩
theorem TmAt.len {w : World} {t : Tm} {cs : List Value} (h : TmAt w cs t) : cs.length = 7 := by
  cases t with
  | var s => rw [show cs = _ from h]; rfl
  | val v => rw [show cs = _ from h]; rfl
  | op m a b => obtain ⟨ad, c, ca, cb, h1, _⟩ := h; rw [h1]; rfl
end Go.Proofs.Ytfocjfnkcabbgaa

set_option linter.unusedVariables false
set_option linter.unusedSimpArgs false
namespace Go.Proofs.Ytfocjfnkcabbgaa
open Go.RowKit Go.Shelf

set_option maxHeartbeats 2000000 in
set_option maxRecDepth 100000 in
theorem bfresh_val (w : World) (v : Vl) : Calls Try.prog 51 #[.agg #[.int .i64 v.k, .int .i64 v.i, .string v.t, .slice none 0 0]] w fun e w' => e = .returned (.agg (vcs v).toArray) ∧ New w w' := by
  have hb2 : Blk ((w.alloc (.cells #[.int .i64 v.k, .int .i64 v.i, .string v.t, .slice none 0 0] 37)).alloc (.cells #[.int .i64 v.k, .int .i64 v.i, .string v.t, .slice none 0 0] 37)) (w.heap.size + 1) 37 #[.int .i64 v.k, .int .i64 v.i, .string v.t, .slice none 0 0] := by
    have := Blk.new (w.alloc (.cells #[.int .i64 v.k, .int .i64 v.i, .string v.t, .slice none 0 0] 37)) 37 #[.int .i64 v.k, .int .i64 v.i, .string v.t, .slice none 0 0]
    rwa [World.size_alloc] at this
  have Hb := Lib.hid hb2
  clear hb2
  go_enter Try.func51, Try.ntmps51
  go_wp2_with fail
  refine bodyPost_ret (v := .agg (vcs v).toArray) (res_cellK stVal4 rfl _ _ ⟨w.heap.size + 1, 0, none⟩ (vcs v) rfl Hb.out.vcs rfl) rfl ⟨rfl, ((Chg.refl w _).alloc _).alloc _⟩
end Go.Proofs.Ytfocjfnkcabbgaa

set_option linter.unusedVariables false
set_option linter.unusedSimpArgs false
namespace Go.Proofs.Ytfocjfnkcabbgaa
open Go.RowKit Go.Shelf

set_option maxHeartbeats 2000000 in
set_option maxRecDepth 100000 in
theorem eval_var (w : World) (A : Option Addr) (n c : Nat) (env : Env) (s : ByteArray) (hn : n = env.length) (hm : n ≤ 1000) (hs : SrcAt w A 5 (env.map bcs)) :
    Calls Try.prog 50 #[.slice A n c, .agg #[.int .i64 1, .string s, .int .i64 0, .int .i64 0, .string ⟨#[]⟩, .slice none 0 0, .slice none 0 0]] w fun e w' => e = .returned (optV (lookE env s)) ∧ New w w' := by
  obtain ⟨w1, hw1⟩ : ∃ w1, w1 = (w.alloc (.cells #[.int .i64 1, .string s, .int .i64 0, .int .i64 0, .string ⟨#[]⟩, .slice none 0 0, .slice none 0 0] 39)).alloc (.cells #[.int .i64 0, .int .i64 0, .string ⟨#[]⟩, .slice none 0 0] 37) := ⟨_, rfl⟩
  have hc : New w w1 := by rw [hw1]; exact ((Chg.refl w _).alloc _).alloc _
  have hb2 : Blk w1 (w.heap.size + 1) 37 #[.int .i64 0, .int .i64 0, .string ⟨#[]⟩, .slice none 0 0] := by
    rw [hw1]
    have := Blk.new (w.alloc (.cells #[.int .i64 1, .string s, .int .i64 0, .int .i64 0, .string ⟨#[]⟩, .slice none 0 0, .slice none 0 0] 39)) 37 #[.int .i64 0, .int .i64 0, .string ⟨#[]⟩, .slice none 0 0]
    rwa [World.size_alloc] at this
  have hl := lookup_env w1 A n c env s hn hm (hs.chg hc (fun _ _ => id))
  obtain ⟨u, q, hu⟩ : ∃ (u : Vl) (q : Bool), optV (lookE env s) = .tuple #[.agg (vcs u).toArray, .bool q] := ⟨_, _, rfl⟩
  rw [hu] at hl ⊢
  have Hl := Lib.hid hl
  have Hb2 := Lib.hid hb2
  have Hc := Lib.hid hc
  have HW := Lib.hid hw1
  clear hl hb2 hc hw1 hu hs hn
  go_enter Try.func50, Try.ntmps50
  go_wp2_with first
    | (go_at_call 59; rw [← HW.out]; refine Hl.out.mono ?_; rintro e w2 ⟨rfl, hc2⟩; replace Hb2 := Lib.hid (Hb2.out.chg hc2 id); replace Hc := Lib.hid (Hc.out.trans hc2 (fun _ _ x => x)); clear hc2)
    | ((with_reducible refine wpl_store rfl (.tmp 4) (.tmp 16) 37 rfl stVal4 (w.heap.size + 1) 0 37 _ (vcs u) ?_ ?_ Hb2.out (vcl_len _) ?_ (vcl_one u) ?_); exact rfl; exact rfl; exact Nat.le_refl _)
  refine bodyPost_ret (v := .tuple #[.agg (vcs u).toArray, .bool q]) (res_cell2 (p := 4) (q := 5) stVal4 rfl _ _ ⟨w.heap.size + 1, 0, none⟩ (vcs u) rfl (stored_at Hb2.out rfl) rfl) rfl ⟨rfl, Hc.out.setRow _ _ (fun h => absurd h (by omega))⟩

set_option maxHeartbeats 2000000 in
set_option maxRecDepth 100000 in
theorem eval_lit (w : World) (sc : Value) (v : Vl) :
    Calls Try.prog 50 #[sc, .agg #[.int .i64 2, .string ⟨#[]⟩, .int .i64 v.k, .int .i64 v.i, .string v.t, .slice none 0 0, .slice none 0 0]] w fun e w' => e = .returned (optV (some v)) ∧ New w w' := by
  obtain ⟨w1, hw1⟩ : ∃ w1, w1 = (w.alloc (.cells #[.int .i64 2, .string ⟨#[]⟩, .int .i64 v.k, .int .i64 v.i, .string v.t, .slice none 0 0, .slice none 0 0] 39)).alloc (.cells #[.int .i64 0, .int .i64 0, .string ⟨#[]⟩, .slice none 0 0] 37) := ⟨_, rfl⟩
  have hc : New w w1 := by rw [hw1]; exact ((Chg.refl w _).alloc _).alloc _
  have hb2 : Blk w1 (w.heap.size + 1) 37 #[.int .i64 0, .int .i64 0, .string ⟨#[]⟩, .slice none 0 0] := by
    rw [hw1]
    have := Blk.new (w.alloc (.cells #[.int .i64 2, .string ⟨#[]⟩, .int .i64 v.k, .int .i64 v.i, .string v.t, .slice none 0 0, .slice none 0 0] 39)) 37 #[.int .i64 0, .int .i64 0, .string ⟨#[]⟩, .slice none 0 0]
    rwa [World.size_alloc] at this
  have Hb2 := Lib.hid hb2
  have Hc := Lib.hid hc
  have HW := Lib.hid hw1
  clear hb2 hc hw1
  go_enter Try.func50, Try.ntmps50
  go_wp2_with ((with_reducible refine wpl_store rfl (.tmp 4) (.tmp 21) 37 rfl stVal4 (w.heap.size + 1) 0 37 _ (vcs v) ?_ ?_ (by rw [← HW.out]; exact Hb2.out) (vcl_len _) ?_ (vcl_one v) ?_); exact rfl; exact rfl; exact Nat.le_refl _)
  rw [← HW.out]
  refine bodyPost_ret (v := .tuple #[.agg (vcs v).toArray, .bool true]) (res_cell2 (p := 4) (q := 5) stVal4 rfl _ _ ⟨w.heap.size + 1, 0, none⟩ (vcs v) rfl (stored_at Hb2.out rfl) rfl) rfl ⟨rfl, Hc.out.setRow _ _ (fun h => absurd h (by omega))⟩
end Go.Proofs.Ytfocjfnkcabbgaa
