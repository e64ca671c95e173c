/- bind: scope.lookup over bindings. -/
import Derived.Test.YtenkobgeflckdabBnd
import Derived.Test.YtenkobgeflckdabOp
import Derived.Test.YtenkobgeflckdabOpenR
set_option linter.unusedVariables false
set_option linter.unusedSimpArgs false
namespace Go.Proofs.Ytenkobgeflckdab
open Go.RowKit Go.Shelf

/-- What is bound. -/
abbrev Env := List (ByteArray × Vl)
def bcs (p : ByteArray × Vl) : List Value := [.string p.1, .int .i64 p.2.k, .int .i64 p.2.i, .string p.2.t, .slice none 0 0]
def lookE (env : Env) (s : ByteArray) : Option Vl := (env.find? (fun p => decide (p.1 = s))).map (·.2)
theorem bcs_len (p : ByteArray × Vl) : (bcs p).length = 5 := rfl
theorem bcs_one (env : Env) : ∀ cs ∈ env.map bcs, ∀ u ∈ cs, u.oneCell' = true := by
  intro cs hc u hu
  obtain ⟨p, _, rfl⟩ := List.mem_map.1 hc
  simp only [bcs, List.mem_cons, List.not_mem_nil, or_false] at hu
  rcases hu with rfl | rfl | rfl | rfl | rfl <;> rfl
theorem nmB_eq (a b : ByteArray) : (a.toList == b.toList) = decide (a = b) := by
  by_cases h : a = b
  · simp [h]
  · rw [decide_eq_false h, beq_eq_false_iff_ne]
    exact fun e => h (ByteArray.ext (Array.toList_inj.1 (by rw [← ByteArray.toList_eq, ← ByteArray.toList_eq]; exact e)))
def nameOf (cs : List Value) : ByteArray := match cs with | .string s :: _ => s | _ => ⟨#[]⟩

set_option maxHeartbeats 1000000 in
theorem look1 (w : World) (p : ByteArray × Vl) (s : ByteArray) (a : Addr) (ha : w.cell? a = some (.string s)) :
    Calls Try.prog 69 #[.agg (bcs p).toArray, .pointer (some a)] w fun e w' => e = .returned (.bool (decide (p.1 = s))) ∧ New w w' := by
  have hc1 : New w (w.alloc (.cells #[.string p.1, .int .i64 p.2.k, .int .i64 p.2.i, .string p.2.t, .slice none 0 0] 101)) := (Chg.refl w _).alloc _
  have ha1 := hc1.cellS ha id
  have Hc := Lib.hid hc1
  clear hc1
  unfold bcs
  go_enter Try.func69, Try.ntmps69
  go_wp2_with fail
  go_ret
  refine ⟨congrArg (fun b => Ending.returned (.bool b)) (nmB_eq p.1 s), Hc.out⟩

theorem look_some {env : Env} {s : ByteArray} {i : Nat} (h : (env.map bcs).findIdx? (fun cs => decide (nameOf cs = s)) = some i) : ∃ p, env[i]? = some p ∧ lookE env s = some p.2 := by
  rw [List.findIdx?_eq_some_iff_getElem] at h
  obtain ⟨hlt, hp, hno⟩ := h
  rw [List.length_map] at hlt
  simp only [List.getElem_map] at hp hno
  refine ⟨env[i], List.getElem?_eq_getElem hlt, ?_⟩
  unfold lookE
  have hf : env.find? (fun p => decide (p.1 = s)) = some env[i] := by
    rw [List.find?_eq_some_iff_getElem]
    exact ⟨hp, i, hlt, rfl, fun j hj => by have := hno j hj; simp only [nameOf, bcs] at this; have h2 : ¬ env[j].1 = s := fun e => this (decide_eq_true e); rw [decide_eq_false h2]; rfl⟩
  rw [hf]
  rfl
theorem look_none {env : Env} {s : ByteArray} (h : (env.map bcs).findIdx? (fun cs => decide (nameOf cs = s)) = none) : lookE env s = none := by
  rw [List.findIdx?_eq_none_iff] at h
  unfold lookE
  have : env.find? (fun p => decide (p.1 = s)) = none := by
    rw [List.find?_eq_none]
    intro p hp
    have := h (bcs p) (List.mem_map.2 ⟨p, hp, rfl⟩)
    simp only [nameOf, bcs] at this
    intro h
    exact absurd (of_decide_eq_true h) (of_decide_eq_false this)
  rw [this]
  rfl

set_option maxHeartbeats 1000000 in
set_option maxRecDepth 100000 in
theorem lookup_env (w : World) (A : Option Addr) (n c : Nat) (env : Env) (s : ByteArray) (hn : n = env.length) (hm : n ≤ 1000) (hs : SrcAt w A 5 (env.map bcs)) :
    Calls Try.prog 62 #[.slice A n c, .string s] w fun e w' => e = .returned (optV (lookE env s)) ∧ New w w' := by
  have eg := enters_of Try.func69 (by kernel_rfl) rfl
  have hb1 : Blk ((w.alloc (.cells #[.string s] 9)).alloc (.cells #[.int .i64 0, .int .i64 0, .string ⟨#[]⟩, .slice none 0 0] 46)) w.heap.size 9 #[.string s] := (Blk.new w _ _).alloc _
  have hb2 : Blk ((w.alloc (.cells #[.string s] 9)).alloc (.cells #[.int .i64 0, .int .i64 0, .string ⟨#[]⟩, .slice none 0 0] 46)) (w.heap.size + 1) 46 #[.int .i64 0, .int .i64 0, .string ⟨#[]⟩, .slice none 0 0] := by
    have := Blk.new (w.alloc (.cells #[.string s] 9)) 46 #[.int .i64 0, .int .i64 0, .string ⟨#[]⟩, .slice none 0 0]
    rwa [World.size_alloc] at this
  have hc : New w ((w.alloc (.cells #[.string s] 9)).alloc (.cells #[.int .i64 0, .int .i64 0, .string ⟨#[]⟩, .slice none 0 0] 46)) := ((Chg.refl w _).alloc _).alloc _
  obtain ⟨w1, hw1⟩ : ∃ w1, w1 = (w.alloc (.cells #[.string s] 9)).alloc (.cells #[.int .i64 0, .int .i64 0, .string ⟨#[]⟩, .slice none 0 0] 46) := ⟨_, rfl⟩
  rw [← hw1] at hb1 hb2 hc
  have hs1 := hs.chg hc (fun _ _ => id)
  have hidx := idxBind w1 A n c (env.map bcs) (by rw [List.length_map]; exact hn) (by unfold maxLen; omega) hs1 69 #[.pointer (some ⟨w.heap.size, 0, none⟩)] eg (fun cs => decide (nameOf cs = s)) (fun _ => False) (fun cs hcs W hW => by
    obtain ⟨p, _, rfl⟩ := List.mem_map.1 hcs
    exact look1 W p s ⟨w.heap.size, 0, none⟩ ((hb1.chg hW id).cell 0))
  have Hidx := Lib.hid hidx
  have Hb2 := Lib.hid hb2
  have Hc := Lib.hid hc
  have HW := Lib.hid hw1
  have Hs := Lib.hid hs1
  have Hn := Lib.hid hn
  clear hidx hb1 hb2 hc hw1 hs hs1 hn eg
  go_enter Try.func62, Try.ntmps62
  cases hl : (env.map bcs).findIdx? (fun cs => decide (nameOf cs = s)) with
  | none =>
    have hR := look_none hl
    have HL := Lib.hid hl
    rw [hR]
    clear hl hR
    go_wp2_with first
      | (rw [← HW.out]; go_at_call 68; refine Hidx.out.mono ?_; rintro e w2 (⟨i, hi, rfl, hc2⟩ | ⟨hi, rfl, hc2⟩); (exact absurd (HL.out.symm.trans hi) (by simp)); replace Hb2 := Lib.hid (Hb2.out.chg hc2 id); replace Hc := Lib.hid (Hc.out.trans hc2 (fun _ _ x => x)); clear hc2 hi)
      | ((with_reducible refine wpl_store rfl (.tmp 4) (.tmp 12) 46 rfl stVal4 (w.heap.size + 1) 0 46 _ (vcs zV) ?_ ?_ Hb2.out (vcl_len _) ?_ (vcl_one zV) ?_); exact rfl; exact rfl; exact Nat.le_refl _)
    refine bodyPost_ret (v := .tuple #[.agg (vcs zV).toArray, .bool false]) (res_cell2 (p := 4) (q := 5) stVal4 rfl _ _ ⟨w.heap.size + 1, 0, none⟩ (vcs zV) rfl (stored_at Hb2.out rfl) rfl) rfl ⟨rfl, Hc.out.setRow _ _ (fun h => absurd h (by omega))⟩
  | some i =>
    obtain ⟨p, hp, hR⟩ := look_some hl
    obtain ⟨ad, rfl, hrw⟩ := Hs.out (by rw [List.length_map]; have := (List.getElem?_eq_some_iff.1 hp).1; omega)
    have hat := (hrw i (bcs p) (by rw [List.getElem?_map, hp]; rfl)).2
    have hilt : i < n := by rw [Hn.out]; exact (List.getElem?_eq_some_iff.1 hp).1
    have hv : At w1 ⟨(ad.add (i * 5)).block, (ad.add (i * 5)).off + 1, none⟩ (vcs p.2) := fun j u hj => by
      have := hat (j + 1) u (by simpa [bcs, vcs] using hj)
      rw [add_add, show i * 5 + (j + 1) = (i * 5 + j) + 1 by omega, add_succ] at this
      rw [Addr.add_lit, add_block, add_offs]
      rwa [show ad.off + i * 5 + 1 + j = ad.off + (i * 5 + j + 1) by omega]
    have HL := Lib.hid hl
    have Hv := Lib.hid hv
    rw [hR]
    clear hl hR hat hv hrw hp
    go_wp2_with first
      | (rw [← HW.out]; go_at_call 68; refine Hidx.out.mono ?_; rintro e w2 (⟨k, hi, rfl, hc2⟩ | ⟨hi, rfl, hc2⟩); (rotate_left; exact absurd (HL.out.symm.trans hi) (by simp)); obtain rfl : i = k := by simpa using HL.out.symm.trans hi
         replace Hb2 := Lib.hid (Hb2.out.chg hc2 id); replace Hv := Lib.hid (Hv.out.chg hc2 id); replace Hc := Lib.hid (Hc.out.trans hc2 (fun _ _ x => x)); clear hc2 hi)
      | ((with_reducible refine wpl_load rfl (.tmp 16) 46 rfl stVal4 ⟨(ad.add (i * 5)).block, (ad.add (i * 5)).off + 1, none⟩ (vcs p.2) ?_ (vcl_len _) Hv.out ?_); exact rfl)
      | ((with_reducible refine wpl_store rfl (.tmp 4) (.tmp 17) 46 rfl stVal4 (w.heap.size + 1) 0 46 _ (vcs p.2) ?_ ?_ Hb2.out (vcl_len _) ?_ (vcl_one p.2) ?_); exact rfl; exact rfl; exact Nat.le_refl _)
    refine bodyPost_ret (v := .tuple #[.agg (vcs p.2).toArray, .bool true]) (res_cell2 (p := 4) (q := 5) stVal4 rfl _ _ ⟨w.heap.size + 1, 0, none⟩ (vcs p.2) rfl (stored_at Hb2.out rfl) rfl) rfl ⟨rfl, Hc.out.setRow _ _ (fun h => absurd h (by omega))⟩
end Go.Proofs.Ytenkobgeflckdab
