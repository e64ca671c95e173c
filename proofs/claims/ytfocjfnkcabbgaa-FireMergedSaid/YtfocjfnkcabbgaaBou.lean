/- bind.all: terms' values; bind: scope.eval at sums; bind.Eval, bind.Lookup, scope.is; bind: scope.bound. -/
import Derived.Test.YtfocjfnkcabbgaaEvl
set_option linter.unusedVariables false
set_option linter.unusedSimpArgs false
namespace Go.Proofs.Ytfocjfnkcabbgaa
open Go.RowKit Go.Shelf

theorem stTerm : StT Try.prog 39 7 := ⟨⟨_, Try.underlying39⟩, by kernel_rfl⟩

theorem elTerm : ElT Try.prog 24 39 7 104 (Value.cells (.agg #[.int .i64 0, .string ⟨#[]⟩, .int .i64 0, .int .i64 0, .string ⟨#[]⟩, .slice none 0 0, .slice none 0 0])).toList :=
  ElT.mk' (by kernel_rfl) (by kernel_rfl) rfl (by omega) (by intro u hu; simp only [Value.cells, List.mem_cons, List.not_mem_nil, or_false] at hu; rcases hu with rfl | rfl | rfl | rfl | rfl | rfl | rfl <;> rfl)

theorem src_one {w : World} {g k : Nat} {cs : List Value} (h : At w ⟨g, 0, none⟩ cs) (hk : cs.length = k := by rfl) : SrcAt w (some ⟨g, 0, none⟩) k [cs] := fun _ => ⟨_, rfl, fun j d hj => by
  match j, hj with
  | 0, hj => cases hj; exact ⟨hk, by rw [Nat.zero_mul]; exact h⟩
  | j + 1, hj => simp at hj⟩
section
variable {P : Program} {ops : Array Oper} {Q : Exit → Act → World → Prop} {o : Oper} {rest : List Oper} {a : Act} {w : World} {x y : Value}
/-- append, by what it leaves. -/
theorem wpl_app {t1 t2 ty : TypeId} {R : Value → World → Prop} (hrun : ∃ v' W', (Builtin.append_ #[t1, t2] ty #[x, y]).run P w = .ok v' W' ∧ R v' W') (hg : o.guard = none) (s u : Operand) (ho : o.op = .call { callee := .builtin .append, args := #[s, u], argTypes := #[t1, t2] })
    (hs : a.eval s = x) (hu : a.eval u = y) (h : ∀ v' W', R v' W' → wpList P ops Q rest (a.put o.dst v') W') (hty : o.type = ty := by rfl) : wpList P ops Q (o :: rest) a w := by
  subst hty
  obtain ⟨v', W', hr, hR⟩ := hrun
  exact wpl_append hg s u t1 t2 ho hs hu hr (h v' W' hR)
end

/-- All of them, or none. -/
def allO : List (Option Vl) → Option (List Vl)
  | [] => some []
  | o :: l => match o, allO l with
    | some v, some us => some (v :: us)
    | _, _ => none
theorem allO_take {fs : List (Option Vl)} {k : Nat} {us : List Vl} {v : Vl} (h : allO (fs.take k) = some us) (hv : fs[k]? = some (some v)) : allO (fs.take (k + 1)) = some (us ++ [v]) := by
  induction fs generalizing k us with
  | nil => cases hv
  | cons x l ih =>
    cases k with
    | zero =>
      cases hv
      cases h
      simp [allO]
    | succ k =>
      rw [List.take_succ_cons] at h ⊢
      unfold allO at h ⊢
      cases x with
      | none => cases h
      | some y =>
        cases hl : allO (l.take k) with
        | none => rw [hl] at h; cases h
        | some ys =>
          rw [hl] at h
          cases h
          rw [ih hl hv]
          rfl
theorem allO_none {fs : List (Option Vl)} {k : Nat} (hv : fs[k]? = some none) : allO fs = none := by
  induction fs generalizing k with
  | nil => cases hv
  | cons x l ih =>
    cases k with
    | zero => cases hv; rfl
    | succ k => unfold allO; rw [ih hv]; cases x <;> rfl
theorem allO_len : ∀ {fs : List (Option Vl)} {us : List Vl}, allO fs = some us → us.length = fs.length
  | [], us, h => by cases h; rfl
  | x :: l, us, h => by
    unfold allO at h
    cases x with
    | none => cases h
    | some y =>
      cases hl : allO l with
      | none => rw [hl] at h; cases h
      | some ys => rw [hl] at h; cases h; simp [allO_len hl]

/-- What all leaves. -/
def AllPost (fs : List (Option Vl)) (w : World) (e : Ending) (w' : World) : Prop :=
  New w w' ∧ ((allO fs = none ∧ e = .returned (.tuple #[.slice none 0 0, .bool false])) ∨ ∃ us v, allO fs = some us ∧ e = .returned (.tuple #[v, .bool true]) ∧ Own w' w.heap.size 37 4 v (us.map vcs))

set_option maxHeartbeats 2000000 in
set_option maxRecDepth 100000 in
theorem all_val (w : World) (A : Option Addr) (n c : Nat) (css : List (List Value)) (hn : n = css.length) (hm : n ≤ 1000) (hs : SrcAt w A 7 css) (g : Nat) (eg : Enters Try.prog g) (sc : Value) (fs : List (Option Vl)) (hfl : fs.length = n)
    (hf : ∀ (j : Nat) (cs : List Value) (o : Option Vl), css[j]? = some cs → fs[j]? = some o → ∀ W, New w W → Calls Try.prog g #[sc, .agg cs.toArray] W fun e W' => e = .returned (optV o) ∧ New W W') (h1 : ∀ cs ∈ css, ∀ u ∈ cs, u.oneCell' = true) :
    Calls Try.prog 60 #[.slice A n c, .func (.func g) #[sc] #[]] w (AllPost fs w) := by
  unfold Enters at eg
  have HN := Lib.hid hn
  have Hs := Lib.hid hs
  have Hf := Lib.hid hf
  have Hfl := Lib.hid hfl
  have H1 := Lib.hid h1
  clear hn hs hf h1 hfl
  go_enter Try.func60, Try.ntmps60
  go_wp2_with fail
  go_loopw [4, 12] (fun u4 u12 wr => ∃ (k : Nat) (us : List Vl), k ≤ n ∧ u12 = .int .i64 k ∧ allO (fs.take k) = some us ∧ us.length = k ∧ Own wr w.heap.size 37 4 u4 (us.map vcs) ∧ New w wr) (fun _ u _ => n - (intOf u).toNat)
  case atStart => exact ⟨0, [], Nat.zero_le _, rfl, rfl, rfl, Own.nil _ _ _ _, Chg.refl _ _⟩
  case round =>
    obtain ⟨k, us, hk, rfl, ha, hl, hov, hN⟩ := hrel
    obtain ⟨Ao, co, rfl, hc1, hc2⟩ := hov.form
    rw [List.length_map] at hov ⊢
    have Ha := Lib.hid ha
    have HOv := Lib.hid hov
    have HNw := Lib.hid hN
    have Hl := Lib.hid hl
    clear ha hov hN hl hc1 hc2
    by_cases hlt : k < n
    · obtain ⟨cs, hcs⟩ : ∃ cs, css[k]? = some cs := ⟨_, List.getElem?_eq_getElem (by rw [← HN.out]; exact hlt)⟩
      obtain ⟨ad, rfl, hrw⟩ := Hs.out (by rw [← HN.out]; omega)
      have hl7 := (hrw k cs hcs).1
      have hat := (hrw k cs hcs).2.chg HNw.out id
      have hmem := List.mem_of_getElem? hcs
      have h1c := H1.out cs hmem
      obtain ⟨t0, t1, t2, t3, t4, t5, t6, rfl⟩ : ∃ t0 t1 t2 t3 t4 t5 t6, cs = [t0, t1, t2, t3, t4, t5, t6] := by
        match cs, hl7 with
        | [a, b, c, d, e, f, g], _ => exact ⟨_, _, _, _, _, _, _, rfl⟩
      have Hat := Lib.hid hat
      have Hcs := Lib.hid hcs
      have Hmem := Lib.hid hmem
      have H1c := Lib.hid h1c
      clear hat hcs hmem h1c hrw hl7
      obtain ⟨o, ho⟩ : ∃ o, fs[k]? = some o := ⟨_, List.getElem?_eq_getElem (by rw [Hfl.out]; exact hlt)⟩
      have Hk := Lib.hid (Hf.out k _ o Hcs.out ho)
      have Ho := Lib.hid ho
      clear ho
      clear Hf Hs
      go_wp2_with first
        | ((with_reducible refine wpl_load rfl (.tmp 14) 39 rfl stTerm (ad.add (k * 7)) _ ?_ rfl Hat.out ?_); exact rfl)
        | ((with_reducible refine wpl_box rfl rfl 7 (.tmp 15) 39 rfl rfl rfl rfl stTerm elTerm.zero [t0, t1, t2, t3, t4, t5, t6] ?_ ?_ rfl H1c.out ?_); exact (by decide : 7 < 30); exact rfl; intro w2 hc2 hb2 hs2; have Hc2 := Lib.hid hc2; have Hb2 := Lib.hid (Blk.at_ (cs := [t0, t1, t2, t3, t4, t5, t6]) hb2); clear hc2 hb2 hs2)
        | ((with_reducible refine wpl_load rfl (.tmp 7) 39 rfl stTerm ⟨wr.heap.size, 0, none⟩ _ ?_ rfl Hb2.out ?_); exact rfl)
      refine (Hk.out _ (HNw.out.trans Hc2.out (fun _ _ x => x))).mono ?_
      rintro e w3 ⟨rfl, hc3⟩
      have HN3 := Lib.hid (Hc2.out.trans hc3 (fun _ _ x => x))
      clear hc3 Hk Hb2
      cases o with
      | none =>
        unfold optV
        dsimp only [Option.getD, Option.isSome, vval, zV]
        go_wp2_with ((with_reducible refine wpl_box rfl rfl 8 (.tmp 20) 37 rfl rfl rfl rfl stVal4 elValue.zero (vcs zV) ?_ ?_ (vcl_len _) (vcl_one _) ?_); exact (by decide : 8 < 30); exact rfl; intro w4 hc4 hb4 hs4; replace HN3 := Lib.hid (HN3.out.trans hc4 (fun _ _ x => x)); clear hc4 hb4 hs4)
        go_ret2
        exact ⟨HNw.out.trans HN3.out (fun _ _ x => x), .inl ⟨allO_none Ho.out, rfl⟩⟩
      | some v =>
        unfold optV
        dsimp only [Option.getD, Option.isSome, vval]
        go_upto_region 7 with ((with_reducible refine wpl_box rfl rfl 8 (.tmp 20) 37 rfl rfl rfl rfl stVal4 elValue.zero (vcs v) ?_ ?_ (vcl_len _) (vcl_one _) ?_); exact (by decide : 8 < 30); exact rfl; intro w4 hc4 hb4 hs4; replace HN3 := Lib.hid (HN3.out.trans hc4 (fun _ _ x => x)); have Hb4 := Lib.hid (show At w4 ⟨w3.heap.size, 0, none⟩ [.int .i64 v.k, .int .i64 v.i, .string v.t, .slice none 0 0] from Blk.at_ (cs := vcs v) hb4); clear hc4 hb4 hs4)
        have HOv4 := Lib.hid (HOv.out.chg HN3.out (fun _ _ x => x))
        have HN4 := Lib.hid (HNw.out.trans HN3.out (fun _ _ x => x))
        have hul : us.length ≤ 1000 := by have := Hl.out; omega
        have HA4 := Lib.hid (allO_take Ha.out Ho.out)
        obtain ⟨w5, hw5⟩ : ∃ w5, w5 = w4.alloc (.cells #[.int .i64 v.k, .int .i64 v.i, .string v.t, .slice none 0 0] 37) := ⟨_, rfl⟩
        have hn5 : New w4 w5 := by rw [hw5]; exact (Chg.refl _ _).alloc _
        have hb5 : Blk w5 w4.heap.size 37 #[.int .i64 v.k, .int .i64 v.i, .string v.t, .slice none 0 0] := by rw [hw5]; exact Blk.new _ _ _
        have hrun := elValue.appendS (HOv4.out.chg hn5 (fun _ _ x => x)) (Nat.le_trans HN4.out.size hn5.size) (some ⟨w4.heap.size, 0, none⟩) 1 1 [vcs v] rfl (fun cs hc => by rw [List.mem_singleton.1 hc]; rfl) (fun cs hc => by rw [List.mem_singleton.1 hc]; exact vcl_one v) (src_one (Blk.vcs hb5) (vcl_len v)) (by rw [List.length_map]; omega) (by rw [List.length_map]; unfold maxLen; omega) 35
        rw [hw5] at hrun
        obtain ⟨v6, w6, hrun, hown6, hc6, -⟩ := hrun
        have Hrun := Lib.hid hrun
        have Hown6 := Lib.hid hown6
        have HC6 := Lib.hid ((hn5.mono (T' := fun k => (Value.slice Ao us.length co).ownBlock = some k) (fun _ _ x => x.elim)).trans (hw5 ▸ hc6) (fun _ _ x => x))
        clear hrun hb5 hn5 hw5 hown6 hc6
        clear HOv HN3 HNw Hc2 Hat Hmem H1c Hcs Ho Ha
        go_wp2_with first
          | ((with_reducible refine wpl_load rfl (.tmp 8) 37 rfl stVal4 ⟨w3.heap.size, 0, none⟩ [.int .i64 v.k, .int .i64 v.i, .string v.t, .slice none 0 0] ?_ rfl Hb4.out ?_); exact rfl)
          | ((with_reducible refine wpl_append rfl (.tmp 24) (.tmp 26) 35 35 rfl ?_ ?_ Hrun.out ?_); exact rfl; exact rfl)
        go_roundw
        case rel =>
          refine ⟨k + 1, us ++ [v], by omega, by go_num, HA4.out, by rw [List.length_append, Hl.out]; rfl, by rw [List.map_append]; exact Hown6.out, HN4.out.trans HC6.out (fun k hk h => ?_)⟩
          have := (HOv4.out.lt h).1
          omega
        case measure => simp [intOf]; omega
    · go_wp2_with fail
      go_ret2
      refine ⟨HNw.out, .inr ⟨us, _, ?_, rfl, HOv.out⟩⟩
      have h := Ha.out
      rwa [show k = fs.length by rw [Hfl.out]; omega, List.take_length] at h
end Go.Proofs.Ytfocjfnkcabbgaa

set_option linter.unusedVariables false
set_option linter.unusedSimpArgs false
namespace Go.Proofs.Ytfocjfnkcabbgaa
open Go.RowKit Go.Shelf

set_option maxHeartbeats 4000000 in
set_option maxRecDepth 100000 in
theorem eval_op_none (w : World) (sc : Value) (m : Bool) (ad : Addr) (c : Nat) (ca cb : List Value) (oa ob : Option Vl) (hlt : ad.block < w.heap.size) (hrow : RowsAt w ad 7 [ca, cb]) (h1a : ∀ u ∈ ca, u.oneCell' = true) (h1b : ∀ u ∈ cb, u.oneCell' = true)
    (ha : ∀ W, New w W → Calls Try.prog 50 #[sc, .agg ca.toArray] W fun e W' => e = .returned (optV oa) ∧ New W W')
    (hb : ∀ W, New w W → Calls Try.prog 50 #[sc, .agg cb.toArray] W fun e W' => e = .returned (optV ob) ∧ New W W') (hno : allO [oa, ob] = none) :
    Calls Try.prog 50 #[sc, .agg #[.int .i64 4, .string (opS m), .int .i64 0, .int .i64 0, .string ⟨#[]⟩, .slice none 0 0, .slice (some ad) 2 c]] w fun e w' => e = .returned (optV none) ∧ New w w' := by
  obtain ⟨w1, hw1⟩ : ∃ w1, w1 = ((w.alloc (.cells #[.int .i64 4, .string (opS m), .int .i64 0, .int .i64 0, .string ⟨#[]⟩, .slice none 0 0, .slice (some ad) 2 c] 39)).alloc (.cells #[.int .i64 0, .int .i64 0, .string ⟨#[]⟩, .slice none 0 0] 37)) := ⟨_, rfl⟩
  have hc : New w w1 := by rw [hw1]; exact ((Chg.refl w _).alloc _).alloc _
  have hB1 : Blk w1 w.heap.size 39 #[.int .i64 4, .string (opS m), .int .i64 0, .int .i64 0, .string ⟨#[]⟩, .slice none 0 0, .slice (some ad) 2 c] := by rw [hw1]; exact (Blk.new w _ _).alloc _
  have hB2 : Blk w1 (w.heap.size + 1) 37 #[.int .i64 0, .int .i64 0, .string ⟨#[]⟩, .slice none 0 0] := by
    rw [hw1]
    have := Blk.new (w.alloc (.cells #[.int .i64 4, .string (opS m), .int .i64 0, .int .i64 0, .string ⟨#[]⟩, .slice none 0 0, .slice (some ad) 2 c] 39)) 37 #[.int .i64 0, .int .i64 0, .string ⟨#[]⟩, .slice none 0 0]
    rwa [World.size_alloc] at this
  have hall := all_val w1 (some ad) 2 c [ca, cb] rfl (by omega) (fun _ => ⟨ad, rfl, hrow.chg hc id⟩) 50 (enters_of Try.func50 (by kernel_rfl) rfl) sc [oa, ob] rfl (fun j cs o hj ho W hW => by
    match j, hj, ho with
    | 0, hj, ho => cases hj; cases ho; exact ha W (hc.trans hW (fun _ _ x => x))
    | 1, hj, ho => cases hj; cases ho; exact hb W (hc.trans hW (fun _ _ x => x))
    | j + 2, hj, ho => simp at hj) (fun cs hcs => by
    rcases List.mem_cons.1 hcs with rfl | hcs
    · exact h1a
    · rw [List.mem_singleton.1 hcs]; exact h1b)
  have HALL := Lib.hid (hall.mono (R' := fun e w' => New w1 w' ∧ e = .returned (.tuple #[.slice none 0 0, .bool false])) (by
    rintro e w' ⟨hc, ⟨_, he⟩ | ⟨us, v, hu, _⟩⟩
    · exact ⟨hc, he⟩
    · rw [hno] at hu; cases hu))
  have HB1 := Lib.hid hB1
  have HB2 := Lib.hid hB2
  have Hc := Lib.hid hc
  have HW := Lib.hid hw1
  clear hall hB1 hB2 hc hw1 ha hb h1a h1b hrow hlt hno
  go_enter Try.func50, Try.ntmps50
  go_wp2_with first
    | (go_at_call 60; rw [← HW.out]; refine HALL.out.mono ?_; rintro e w2 ⟨hc2, rfl⟩; replace HB1 := Lib.hid (HB1.out.chg hc2 id); replace HB2 := Lib.hid (HB2.out.chg hc2 id); replace Hc := Lib.hid (Hc.out.trans hc2 (fun _ _ x => x)); have c0 := HB1.out.cell 0; simp only [List.getElem?_toArray, List.getElem?_cons_zero] at c0; clear hc2)
    | ((with_reducible refine wpl_store rfl (.tmp 4) (.tmp 33) 37 rfl stVal4 (w.heap.size + 1) 0 37 _ (vcs zV) ?_ ?_ HB2.out (vcl_len _) ?_ (vcl_one zV) ?_); exact rfl; exact rfl; exact Nat.le_refl _)
  refine bodyPost_ret (v := .tuple #[.agg (vcs zV).toArray, .bool false]) (res_cell2 (p := 4) (q := 5) stVal4 rfl _ _ ⟨w.heap.size + 1, 0, none⟩ (vcs zV) rfl (stored_at HB2.out rfl) rfl) rfl ⟨rfl, Hc.out.setRow _ _ (fun h => absurd h (by omega))⟩

set_option maxHeartbeats 4000000 in
set_option maxRecDepth 100000 in
theorem eval_op_some (w : World) (sc : Value) (m : Bool) (ad : Addr) (c : Nat) (ca cb : List Value) (x y : Vl) (hlt : ad.block < w.heap.size) (hrow : RowsAt w ad 7 [ca, cb]) (h1a : ∀ u ∈ ca, u.oneCell' = true) (h1b : ∀ u ∈ cb, u.oneCell' = true)
    (ha : ∀ W, New w W → Calls Try.prog 50 #[sc, .agg ca.toArray] W fun e W' => e = .returned (optV (some x)) ∧ New W W')
    (hb : ∀ W, New w W → Calls Try.prog 50 #[sc, .agg cb.toArray] W fun e W' => e = .returned (optV (some y)) ∧ New W W') (okx : okW x) (oky : okW y) :
    Calls Try.prog 50 #[sc, .agg #[.int .i64 4, .string (opS m), .int .i64 0, .int .i64 0, .string ⟨#[]⟩, .slice none 0 0, .slice (some ad) 2 c]] w fun e w' => e = .returned (optV (opV m x y)) ∧ New w w' := by
  have hop := fun W => op_val W m x y okx.1 oky.1 okx.2.1 okx.2.2 oky.2.1 oky.2.2
  obtain ⟨u, q, hu⟩ : ∃ (u : Vl) (q : Bool), optV (opV m x y) = .tuple #[.agg (vcs u).toArray, .bool q] := ⟨_, _, rfl⟩
  rw [hu] at hop ⊢
  obtain ⟨w1, hw1⟩ : ∃ w1, w1 = ((w.alloc (.cells #[.int .i64 4, .string (opS m), .int .i64 0, .int .i64 0, .string ⟨#[]⟩, .slice none 0 0, .slice (some ad) 2 c] 39)).alloc (.cells #[.int .i64 0, .int .i64 0, .string ⟨#[]⟩, .slice none 0 0] 37)) := ⟨_, rfl⟩
  have hc : New w w1 := by rw [hw1]; exact ((Chg.refl w _).alloc _).alloc _
  have hB1 : Blk w1 w.heap.size 39 #[.int .i64 4, .string (opS m), .int .i64 0, .int .i64 0, .string ⟨#[]⟩, .slice none 0 0, .slice (some ad) 2 c] := by rw [hw1]; exact (Blk.new w _ _).alloc _
  have hB2 : Blk w1 (w.heap.size + 1) 37 #[.int .i64 0, .int .i64 0, .string ⟨#[]⟩, .slice none 0 0] := by
    rw [hw1]
    have := Blk.new (w.alloc (.cells #[.int .i64 4, .string (opS m), .int .i64 0, .int .i64 0, .string ⟨#[]⟩, .slice none 0 0, .slice (some ad) 2 c] 39)) 37 #[.int .i64 0, .int .i64 0, .string ⟨#[]⟩, .slice none 0 0]
    rwa [World.size_alloc] at this
  have hall := all_val w1 (some ad) 2 c [ca, cb] rfl (by omega) (fun _ => ⟨ad, rfl, hrow.chg hc id⟩) 50 (enters_of Try.func50 (by kernel_rfl) rfl) sc [some x, some y] rfl (fun j cs o hj ho W hW => by
    match j, hj, ho with
    | 0, hj, ho => cases hj; cases ho; exact ha W (hc.trans hW (fun _ _ x => x))
    | 1, hj, ho => cases hj; cases ho; exact hb W (hc.trans hW (fun _ _ x => x))
    | j + 2, hj, ho => simp at hj) (fun cs hcs => by
    rcases List.mem_cons.1 hcs with rfl | hcs
    · exact h1a
    · rw [List.mem_singleton.1 hcs]; exact h1b)
  have HALL := Lib.hid (hall.mono (R' := fun e w' => New w1 w' ∧ ∃ A c, e = .returned (.tuple #[.slice (some A) 2 c, .bool true]) ∧ RowsAt w' A 4 [vcs x, vcs y]) (by
    rintro e w' ⟨hc, ⟨h, _⟩ | ⟨us, v, hu, he, hown⟩⟩
    · cases h
    · cases hu
      obtain ⟨A, c, hv, _, _⟩ := hown.form
      obtain ⟨B, hB, hr⟩ := (hown.rows hv).2 (by simp)
      subst hB
      exact ⟨hc, B, c, by rw [he, hv]; rfl, hr⟩))
  have HB1 := Lib.hid hB1
  have HB2 := Lib.hid hB2
  have Hc := Lib.hid hc
  have HW := Lib.hid hw1
  have HOp := Lib.hid hop
  clear hall hB1 hB2 hc hw1 ha hb h1a h1b hrow hlt hop hu okx oky
  go_enter Try.func50, Try.ntmps50
  go_upto_region 12 with first
    | (go_at_call 60; rw [← HW.out]; refine HALL.out.mono ?_; rintro e w2 ⟨hc2, B, d, rfl, hr⟩; replace HB1 := Lib.hid (HB1.out.chg hc2 id); replace HB2 := Lib.hid (HB2.out.chg hc2 id); replace Hc := Lib.hid (Hc.out.trans hc2 (fun _ _ x => x)); have Hr := Lib.hid hr; have c0 := HB1.out.cell 0; simp only [List.getElem?_toArray, List.getElem?_cons_zero] at c0; clear hc2 hr)
    | fail
  refine wp_region_at (by kernel_rfl) ?_
  have HBd := Lib.hid (HB1.out.chg (Chg.refl _ (fun _ => False)).drew id)
  have HCd := Lib.hid (HB2.out.chg (Chg.refl _ (fun _ => False)).drew id)
  have HRd := Lib.hid (Hr.out.chg (Chg.refl _ (fun _ => False)).drew id)
  have Hd := Lib.hid (Hc.out.drew)
  clear HB1 HB2 Hr Hc c0
  generalize w2.drew = wd at HBd HCd HRd Hd ⊢
  have hx := (HRd.out 0 _ rfl).2
  have hy := (HRd.out 1 _ rfl).2
  have Hx := Lib.hid hx
  have Hy := Lib.hid hy
  have hs := HBd.out.cell 1
  simp only [List.getElem?_toArray, List.getElem?_cons_zero, List.getElem?_cons_succ] at hs
  have Hs := Lib.hid hs
  clear hx hy hs HRd
  refine AtN.segQ2 0 8 (fun
    | 0 => .pointer (some ⟨w.heap.size, 1, none⟩)
    | 1 => .string (opS m)
    | 2 => .slice (some B) 2 d
    | 3 => .pointer (some (B.add 0))
    | 4 => .agg #[.int .i64 x.k, .int .i64 x.i, .string x.t, .slice none 0 0]
    | 5 => .slice (some B) 2 d
    | 6 => .pointer (some (B.add 4))
    | _ => .agg #[.int .i64 y.k, .int .i64 y.i, .string y.t, .slice none 0 0])
    [(53, .pointer (some ⟨w.heap.size, 1, none⟩)), (54, .string (opS m)), (55, .slice (some B) 2 d), (56, .pointer (some (B.add 0))), (57, .agg #[.int .i64 x.k, .int .i64 x.i, .string x.t, .slice none 0 0]), (58, .slice (some B) 2 d), (59, .pointer (some (B.add 4))), (60, .agg #[.int .i64 y.k, .int .i64 y.i, .string y.t, .slice none 0 0])] (by kernel_rfl) (by kernel_rfl) (by kernel_rfl) (by kernel_rfl) rfl (fun i hn hi o ho A0 hin hk => ?_) ?_
  · rcases (show i = 0 ∨ i = 1 ∨ i = 2 ∨ i = 3 ∨ i = 4 ∨ i = 5 ∨ i = 6 ∨ i = 7 by omega) with rfl | rfl | rfl | rfl | rfl | rfl | rfl | rfl
    · cases ho
      have h3 : A0.tmps[3]?.getD undef = .pointer (some ⟨w.heap.size, 0, none⟩) := hk 3 (by kernel_rfl)
      exact by simp [go_sem, h3]
    · cases ho
      have h53 : A0.tmps[53]?.getD undef = .pointer (some ⟨w.heap.size, 1, none⟩) := hin 0 53 (by kernel_rfl)
      exact by simp [go_sem, h53, Hs.out]
    · cases ho
      exact exec_move 6 _ rfl (hk 6 (by kernel_rfl))
    · cases ho
      have h55 : A0.tmps[55]?.getD undef = .slice (some B) 2 d := hin 2 55 (by kernel_rfl)
      exact by simp [go_sem, h55]
    · cases ho
      have h56 : A0.tmps[56]?.getD undef = .pointer (some (B.add 0)) := hin 3 56 (by kernel_rfl)
      exact exec_load 56 _ rfl stVal4 (B.add (0 * 4)) (vcs x) h56 (vcl_len x) Hx.out
    · cases ho
      exact exec_move 6 _ rfl (hk 6 (by kernel_rfl))
    · cases ho
      have h58 : A0.tmps[58]?.getD undef = .slice (some B) 2 d := hin 5 58 (by kernel_rfl)
      exact by simp [go_sem, h58]
    · cases ho
      have h59 : A0.tmps[59]?.getD undef = .pointer (some (B.add 4)) := hin 6 59 (by kernel_rfl)
      exact exec_load 59 _ rfl stVal4 (B.add (1 * 4)) (vcs y) h59 (vcl_len y) Hy.out
  simp only [putsL, Act.put, List.setIfInBounds_toArray, List.set_cons_succ, List.set_cons_zero]
  refine AtN.list 8 9 (by kernel_rfl) ?_
  change wpList _ _ _ [_] _ _
  go_wp2_with (go_at_call 62; refine (HOp.out _).mono ?_; rintro e w3 ⟨rfl, hc3⟩; replace HCd := Lib.hid (HCd.out.chg hc3 id); replace Hd := Lib.hid (Hd.out.trans hc3 (fun _ _ x => x)); clear hc3)
  change AtN _ _ _ 9 _ _
  refine AtN.segQ2 9 11 (fun
    | 9 => .agg #[.int .i64 u.k, .int .i64 u.i, .string u.t, .slice none 0 0]
    | _ => .bool q)
    [(62, .agg #[.int .i64 u.k, .int .i64 u.i, .string u.t, .slice none 0 0]), (63, .bool q)] (by kernel_rfl) (by kernel_rfl) (by kernel_rfl) (by kernel_rfl) rfl (fun i hn hi o ho A0 hin hk => ?_) ?_
  · rcases (show i = 9 ∨ i = 10 by omega) with rfl | rfl
    · cases ho
      have h61 : A0.tmps[61]?.getD undef = .tuple #[.agg #[.int .i64 u.k, .int .i64 u.i, .string u.t, .slice none 0 0], .bool q] := hk 61 (by kernel_rfl)
      exact by simp [go_sem, h61]
    · cases ho
      have h61 : A0.tmps[61]?.getD undef = .tuple #[.agg #[.int .i64 u.k, .int .i64 u.i, .string u.t, .slice none 0 0], .bool q] := hk 61 (by kernel_rfl)
      exact by simp [go_sem, h61]
  simp only [putsL, Act.put, List.setIfInBounds_toArray, List.set_cons_succ, List.set_cons_zero]
  refine AtN.list 11 13 (by kernel_rfl) ?_
  change wpList _ _ _ [_, _] _ _
  go_wp2_with ((with_reducible refine wpl_store rfl (.tmp 4) (.tmp 62) 37 rfl stVal4 (w.heap.size + 1) 0 37 _ (vcs u) ?_ ?_ HCd.out (vcl_len _) ?_ (vcl_one u) ?_); exact rfl; exact rfl; exact Nat.le_refl _)
  change AtN _ _ _ 13 _ _
  refine AtN.done rfl ?_
  go_wp2_with fail
  refine bodyPost_ret (v := .tuple #[.agg (vcs u).toArray, .bool q]) (res_cell2 (p := 4) (q := 5) stVal4 rfl _ _ ⟨w.heap.size + 1, 0, none⟩ (vcs u) rfl (stored_at HCd.out rfl) rfl) rfl ⟨rfl, Hd.out.setRow _ _ (fun h => absurd h (by omega))⟩

theorem TmAt.one {w : World} {t : Tm} {cs : List Value} (h : TmAt w cs t) : ∀ u ∈ cs, u.oneCell' = true := by
  cases t with
  | var s => rw [show cs = _ from h]; intro u hu; simp only [List.cons_append, List.nil_append, vcs, List.mem_cons, List.not_mem_nil, or_false] at hu; rcases hu with rfl | rfl | rfl | rfl | rfl | rfl | rfl <;> rfl
  | val v => rw [show cs = _ from h]; intro u hu; simp only [List.cons_append, List.nil_append, vcs, List.mem_cons, List.not_mem_nil, or_false] at hu; rcases hu with rfl | rfl | rfl | rfl | rfl | rfl | rfl <;> rfl
  | op m a b => obtain ⟨ad, c, ca, cb, h1, _⟩ := h; rw [h1]; intro u hu; simp only [List.cons_append, List.nil_append, vcs, List.mem_cons, List.not_mem_nil, or_false] at hu; rcases hu with rfl | rfl | rfl | rfl | rfl | rfl | rfl <;> rfl

/-- scope.eval. -/
theorem eval_tm (A : Option Addr) (n c : Nat) (env : Env) (hn : n = env.length) (hm : n ≤ 1000) (hok : okEnv env) : ∀ (t : Tm), okTm t → ∀ (w : World) (cs : List Value), SrcAt w A 5 (env.map bcs) → TmAt w cs t →
    Calls Try.prog 50 #[.slice A n c, .agg cs.toArray] w fun e w' => e = .returned (optV (evalT env t)) ∧ New w w'
  | .var s, _, w, cs, hs, h => by
    rw [show cs = _ from h]
    exact eval_var w A n c env s hn hm hs
  | .val v, _, w, cs, hs, h => by
    rw [show cs = _ from h]
    exact eval_lit w _ v
  | .op m a b, ht, w, cs, hs, h => by
    obtain ⟨ad, d, ca, cb, rfl, hlt, hrow, ha, hb⟩ := h
    have ka : ∀ W, New w W → Calls Try.prog 50 #[.slice A n c, .agg ca.toArray] W fun e W' => e = .returned (optV (evalT env a)) ∧ New W W' := fun W hW => eval_tm A n c env hn hm hok a ht.1 W ca (hs.chg hW (fun _ _ => id)) (ha.chg hW)
    have kb : ∀ W, New w W → Calls Try.prog 50 #[.slice A n c, .agg cb.toArray] W fun e W' => e = .returned (optV (evalT env b)) ∧ New W W' := fun W hW => eval_tm A n c env hn hm hok b ht.2 W cb (hs.chg hW (fun _ _ => id)) (hb.chg hW)
    have oka := fun x => evalT_ok hok ht.1 (v := x)
    have okb := fun x => evalT_ok hok ht.2 (v := x)
    have he : evalT env (.op m a b) = match evalT env a, evalT env b with
      | some x, some y => opV m x y
      | _, _ => none := by rw [evalT]; rfl
    rw [he]
    cases h1 : evalT env a with
    | none =>
      rw [h1] at ka
      exact eval_op_none w _ m ad d ca cb none _ hlt hrow ha.one hb.one ka kb rfl
    | some x =>
      rw [h1] at ka
      cases h2 : evalT env b with
      | none =>
        rw [h2] at kb
        exact eval_op_none w _ m ad d ca cb _ none hlt hrow ha.one hb.one ka kb rfl
      | some y =>
        rw [h2] at kb
        exact eval_op_some w _ m ad d ca cb x y hlt hrow ha.one hb.one ka kb (oka x h1) (okb y h2)
end Go.Proofs.Ytfocjfnkcabbgaa

set_option linter.unusedVariables false
set_option linter.unusedSimpArgs false
namespace Go.Proofs.Ytfocjfnkcabbgaa
open Go.RowKit Go.Shelf

theorem TmAt.seven {w : World} {t : Tm} {cs : List Value} (h : TmAt w cs t) : ∃ t0 t1 t2 t3 t4 t5 t6, cs = [t0, t1, t2, t3, t4, t5, t6] := by
  have := h.len
  match cs, this with
  | [a, b, c, d, e, f, g], _ => exact ⟨_, _, _, _, _, _, _, rfl⟩

set_option maxHeartbeats 2000000 in
set_option maxRecDepth 100000 in
theorem bEval (A : Option Addr) (n c : Nat) (env : Env) (hn : n = env.length) (hm : n ≤ 1000) (hok : okEnv env) (t : Tm) (ht : okTm t) (w : World) (cs : List Value) (hs : SrcAt w A 5 (env.map bcs)) (hat : TmAt w cs t) :
    Calls Try.prog 40 #[.agg cs.toArray, .slice A n c] w fun e w' => e = .returned (optV (evalT env t)) ∧ New w w' := by
  have hk := fun W (hW : New w W) => eval_tm A n c env hn hm hok t ht W cs (hs.chg hW (fun _ _ => id)) (hat.chg hW)
  obtain ⟨u, q, hu⟩ : ∃ (u : Vl) (q : Bool), optV (evalT env t) = .tuple #[.agg (vcs u).toArray, .bool q] := ⟨_, _, rfl⟩
  rw [hu] at hk ⊢
  obtain ⟨t0, t1, t2, t3, t4, t5, t6, rfl⟩ := hat.seven
  obtain ⟨w1, hw1⟩ : ∃ w1, w1 = (w.alloc (.cells #[t0, t1, t2, t3, t4, t5, t6] 39)).alloc (.cells #[.int .i64 0, .int .i64 0, .string ⟨#[]⟩, .slice none 0 0] 37) := ⟨_, rfl⟩
  have hc : New w w1 := by rw [hw1]; exact ((Chg.refl w _).alloc _).alloc _
  have hb1 : At w1 ⟨w.heap.size, 0, none⟩ [t0, t1, t2, t3, t4, t5, t6] := by rw [hw1]; exact ((Blk.new w _ _).alloc _).at_
  have hb2 : Blk w1 (w.heap.size + 1) 37 #[.int .i64 0, .int .i64 0, .string ⟨#[]⟩, .slice none 0 0] := by
    rw [hw1]
    have := Blk.new (w.alloc (.cells #[t0, t1, t2, t3, t4, t5, t6] 39)) 37 #[.int .i64 0, .int .i64 0, .string ⟨#[]⟩, .slice none 0 0]
    rwa [World.size_alloc] at this
  have Hk := Lib.hid (hk w1 hc)
  have HB1 := Lib.hid hb1
  have HB2 := Lib.hid hb2
  have Hc := Lib.hid hc
  have HW := Lib.hid hw1
  clear hk hb1 hb2 hc hw1 hat hs hu hn ht hok
  go_enter Try.func40, Try.ntmps40
  go_wp2_with first
    | ((with_reducible refine wpl_load rfl (.tmp 2) 39 rfl stTerm ⟨w.heap.size, 0, none⟩ _ ?_ rfl (by rw [← HW.out]; exact HB1.out) ?_); exact rfl)
    | (go_at_call 50; rw [← HW.out]; refine Hk.out.mono ?_; rintro e w2 ⟨rfl, hc2⟩; replace HB2 := Lib.hid (HB2.out.chg hc2 id); replace Hc := Lib.hid (Hc.out.trans hc2 (fun _ _ x => x)); clear hc2)
    | ((with_reducible refine wpl_box rfl rfl 6 (.tmp 12) 37 rfl rfl rfl rfl stVal4 elValue.zero (vcs u) ?_ ?_ (vcl_len _) (vcl_one _) ?_); exact (by decide : 6 < 17); exact rfl; intro w4 hc4 hb4 hs4; replace HB2 := Lib.hid (HB2.out.chg hc4 id); replace Hc := Lib.hid (Hc.out.trans hc4 (fun _ _ x => x)); have Hb4 := Lib.hid (show At w4 ⟨w2.heap.size, 0, none⟩ [.int .i64 u.k, .int .i64 u.i, .string u.t, .slice none 0 0] from Blk.at_ (cs := vcs u) hb4); clear hc4 hb4 hs4)
    | ((with_reducible refine wpl_load rfl (.tmp 6) 37 rfl stVal4 ⟨w2.heap.size, 0, none⟩ [.int .i64 u.k, .int .i64 u.i, .string u.t, .slice none 0 0] ?_ rfl Hb4.out ?_); exact rfl)
    | (go_at_call 51; refine (bfresh_val _ u).mono ?_; rintro e w5 ⟨rfl, hc5⟩; replace HB2 := Lib.hid (HB2.out.chg hc5 id); replace Hc := Lib.hid (Hc.out.trans hc5 (fun _ _ x => x)); clear hc5)
    | ((with_reducible refine wpl_store rfl (.tmp 4) (.tmp 15) 37 rfl stVal4 (w.heap.size + 1) 0 37 _ (vcs u) ?_ ?_ HB2.out (vcl_len _) ?_ (vcl_one u) ?_); exact rfl; exact rfl; exact Nat.le_refl _)
  refine bodyPost_ret (v := .tuple #[.agg (vcs u).toArray, .bool q]) (res_cell2 (p := 4) (q := 5) stVal4 rfl _ _ ⟨w.heap.size + 1, 0, none⟩ (vcs u) rfl (stored_at HB2.out rfl) rfl) rfl ⟨rfl, Hc.out.setRow _ _ (fun h => absurd h (by omega))⟩

set_option maxHeartbeats 2000000 in
set_option maxRecDepth 100000 in
theorem bLookup (A : Option Addr) (n c : Nat) (env : Env) (hn : n = env.length) (hm : n ≤ 1000) (s : ByteArray) (w : World) (hs : SrcAt w A 5 (env.map bcs)) :
    Calls Try.prog 48 #[.slice A n c, .string s] w fun e w' => e = .returned (optV (lookE env s)) ∧ New w w' := by
  have hk := fun W (hW : New w W) => lookup_env W A n c env s hn hm (hs.chg hW (fun _ _ => id))
  obtain ⟨u, q, hu⟩ : ∃ (u : Vl) (q : Bool), optV (lookE env s) = .tuple #[.agg (vcs u).toArray, .bool q] := ⟨_, _, rfl⟩
  rw [hu] at hk ⊢
  obtain ⟨w1, hw1⟩ : ∃ w1, w1 = w.alloc (.cells #[.int .i64 0, .int .i64 0, .string ⟨#[]⟩, .slice none 0 0] 37) := ⟨_, rfl⟩
  have hc : New w w1 := by rw [hw1]; exact (Chg.refl w _).alloc _
  have hb2 : Blk w1 w.heap.size 37 #[.int .i64 0, .int .i64 0, .string ⟨#[]⟩, .slice none 0 0] := by rw [hw1]; exact Blk.new w _ _
  have Hk := Lib.hid (hk w1 hc)
  have HB2 := Lib.hid hb2
  have Hc := Lib.hid hc
  have HW := Lib.hid hw1
  clear hk hb2 hc hw1 hs hu hn
  go_enter Try.func48, Try.ntmps48
  go_wp2_with first
    | (go_at_call 59; rw [← HW.out]; refine Hk.out.mono ?_; rintro e w2 ⟨rfl, hc2⟩; replace HB2 := Lib.hid (HB2.out.chg hc2 id); replace Hc := Lib.hid (Hc.out.trans hc2 (fun _ _ x => x)); clear hc2)
    | ((with_reducible refine wpl_box rfl rfl 6 (.tmp 12) 37 rfl rfl rfl rfl stVal4 elValue.zero (vcs u) ?_ ?_ (vcl_len _) (vcl_one _) ?_); exact (by decide : 6 < 17); exact rfl; intro w4 hc4 hb4 hs4; replace HB2 := Lib.hid (HB2.out.chg hc4 id); replace Hc := Lib.hid (Hc.out.trans hc4 (fun _ _ x => x)); have Hb4 := Lib.hid (show At w4 ⟨w2.heap.size, 0, none⟩ [.int .i64 u.k, .int .i64 u.i, .string u.t, .slice none 0 0] from Blk.at_ (cs := vcs u) hb4); clear hc4 hb4 hs4)
    | ((with_reducible refine wpl_load rfl (.tmp 6) 37 rfl stVal4 ⟨w2.heap.size, 0, none⟩ [.int .i64 u.k, .int .i64 u.i, .string u.t, .slice none 0 0] ?_ rfl Hb4.out ?_); exact rfl)
    | (go_at_call 51; refine (bfresh_val _ u).mono ?_; rintro e w5 ⟨rfl, hc5⟩; replace HB2 := Lib.hid (HB2.out.chg hc5 id); replace Hc := Lib.hid (Hc.out.trans hc5 (fun _ _ x => x)); clear hc5)
    | ((with_reducible refine wpl_store rfl (.tmp 4) (.tmp 15) 37 rfl stVal4 w.heap.size 0 37 _ (vcs u) ?_ ?_ HB2.out (vcl_len _) ?_ (vcl_one u) ?_); exact rfl; exact rfl; exact Nat.le_refl _)
  refine bodyPost_ret (v := .tuple #[.agg (vcs u).toArray, .bool q]) (res_cell2 (p := 4) (q := 5) stVal4 rfl _ _ ⟨w.heap.size, 0, none⟩ (vcs u) rfl (stored_at HB2.out rfl) rfl) rfl ⟨rfl, Hc.out.setRow _ _ (fun h => absurd h (by omega))⟩

/-- Is a term a value? -/
def isV (env : Env) (t : Tm) (v : Vl) : Bool := match evalT env t with
  | some x => decide (cmpV x v = 0)
  | none => false

set_option maxHeartbeats 2000000 in
set_option maxRecDepth 100000 in
theorem bIs (A : Option Addr) (n c : Nat) (env : Env) (hn : n = env.length) (hm : n ≤ 1000) (hok : okEnv env) (t : Tm) (ht : okTm t) (v : Vl) (w : World) (cs : List Value) (hs : SrcAt w A 5 (env.map bcs)) (hat : TmAt w cs t) :
    Calls Try.prog 57 #[.slice A n c, .agg cs.toArray, .agg #[.int .i64 v.k, .int .i64 v.i, .string v.t, .slice none 0 0]] w fun e w' => e = .returned (.bool (isV env t v)) ∧ New w w' := by
  have hk := fun W (hW : New w W) => eval_tm A n c env hn hm hok t ht W cs (hs.chg hW (fun _ _ => id)) (hat.chg hW)
  have hres : isV env t v = match evalT env t with
    | some x => decide (cmpV x v = 0)
    | none => false := rfl
  obtain ⟨o, ho⟩ : ∃ o, evalT env t = o := ⟨_, rfl⟩
  rw [ho] at hk hres
  rw [hres]
  obtain ⟨t0, t1, t2, t3, t4, t5, t6, rfl⟩ := hat.seven
  obtain ⟨w1, hw1⟩ : ∃ w1, w1 = (w.alloc (.cells #[t0, t1, t2, t3, t4, t5, t6] 39)).alloc (.cells #[.int .i64 v.k, .int .i64 v.i, .string v.t, .slice none 0 0] 37) := ⟨_, rfl⟩
  have hc : New w w1 := by rw [hw1]; exact ((Chg.refl w _).alloc _).alloc _
  have hb1 : At w1 ⟨w.heap.size, 0, none⟩ [t0, t1, t2, t3, t4, t5, t6] := by rw [hw1]; exact ((Blk.new w _ _).alloc _).at_
  have hb2 : At w1 ⟨w.heap.size + 1, 0, none⟩ [.int .i64 v.k, .int .i64 v.i, .string v.t, .slice none 0 0] := by
    rw [hw1]
    have := Blk.new (w.alloc (.cells #[t0, t1, t2, t3, t4, t5, t6] 39)) 37 #[.int .i64 v.k, .int .i64 v.i, .string v.t, .slice none 0 0]
    rw [World.size_alloc] at this
    exact Blk.at_ this
  have Hk := Lib.hid (hk w1 hc)
  have HB1 := Lib.hid hb1
  have HB2 := Lib.hid hb2
  have Hc := Lib.hid hc
  have HW := Lib.hid hw1
  have HC := Lib.hid (fun W x => cmp_val x v W)
  clear hk hb1 hb2 hc hw1 hat hs hn ht hok ho hres
  go_enter Try.func57, Try.ntmps57
  cases o with
  | none =>
    unfold optV at Hk
    dsimp only [Option.getD, Option.isSome, vval, zV] at Hk
    go_wp2_with first
      | ((with_reducible refine wpl_load rfl (.tmp 4) 39 rfl stTerm ⟨w.heap.size, 0, none⟩ _ ?_ rfl (by rw [← HW.out]; exact HB1.out) ?_); exact rfl)
      | (go_at_call 50; rw [← HW.out]; refine Hk.out.mono ?_; rintro e w2 ⟨rfl, hc2⟩; replace HB2 := Lib.hid (HB2.out.chg hc2 id); replace Hc := Lib.hid (Hc.out.trans hc2 (fun _ _ x => x)); clear hc2)
      | ((with_reducible refine wpl_box rfl rfl 7 (.tmp 13) 37 rfl rfl rfl rfl stVal4 elValue.zero (vcs zV) ?_ ?_ (vcl_len _) (vcl_one _) ?_); exact (by decide : 7 < 22); exact rfl; intro w4 hc4 hb4 hs4; replace Hc := Lib.hid (Hc.out.trans hc4 (fun _ _ x => x)); clear hc4 hb4 hs4)
    go_ret
    exact ⟨rfl, Hc.out⟩
  | some u =>
    unfold optV at Hk
    dsimp only [Option.getD, Option.isSome, vval] at Hk
    go_wp2_with first
      | ((with_reducible refine wpl_load rfl (.tmp 4) 39 rfl stTerm ⟨w.heap.size, 0, none⟩ _ ?_ rfl (by rw [← HW.out]; exact HB1.out) ?_); exact rfl)
      | (go_at_call 50; rw [← HW.out]; refine Hk.out.mono ?_; rintro e w2 ⟨rfl, hc2⟩; replace HB2 := Lib.hid (HB2.out.chg hc2 id); replace Hc := Lib.hid (Hc.out.trans hc2 (fun _ _ x => x)); clear hc2)
      | ((with_reducible refine wpl_box rfl rfl 7 (.tmp 13) 37 rfl rfl rfl rfl stVal4 elValue.zero (vcs u) ?_ ?_ (vcl_len _) (vcl_one _) ?_); exact (by decide : 7 < 22); exact rfl; intro w4 hc4 hb4 hs4; replace HB2 := Lib.hid (HB2.out.chg hc4 id); replace Hc := Lib.hid (Hc.out.trans hc4 (fun _ _ x => x)); have Hb4 := Lib.hid (show At w4 ⟨w2.heap.size, 0, none⟩ [.int .i64 u.k, .int .i64 u.i, .string u.t, .slice none 0 0] from Blk.at_ (cs := vcs u) hb4); clear hc4 hb4 hs4)
      | ((with_reducible refine wpl_loadg ?_ (.tmp 7) 37 rfl stVal4 ⟨w2.heap.size, 0, none⟩ [.int .i64 u.k, .int .i64 u.i, .string u.t, .slice none 0 0] ?_ rfl Hb4.out ?_); rfl; exact rfl)
      | ((with_reducible refine wpl_loadg ?_ (.tmp 5) 37 rfl stVal4 ⟨w.heap.size + 1, 0, none⟩ [.int .i64 v.k, .int .i64 v.i, .string v.t, .slice none 0 0] ?_ rfl HB2.out ?_); rfl; exact rfl)
    refine (HC.out _ u).mono ?_
    rintro e w5 ⟨rfl, hc5⟩
    replace Hc := Lib.hid (Hc.out.trans hc5 (fun _ _ x => x))
    clear hc5
    go_wp2_with fail
    go_ret
    exact ⟨by first | rfl | (congr 2; simp), Hc.out⟩
end Go.Proofs.Ytfocjfnkcabbgaa

set_option linter.unusedVariables false
set_option linter.unusedSimpArgs false
namespace Go.Proofs.Ytfocjfnkcabbgaa
open Go.RowKit Go.Shelf

section
variable {P : Program} {ops : Array Oper} {Q : Exit → Act → World → Prop} {o : Oper} {rest : List Oper} {a : Act} {w : World} {k : Nat}
/-- A new variable. -/
theorem wpl_new (hg : o.guard = none) (e : TypeId) (ho : o.op = .alloc e) (hz : ∃ i z, P.info? e = some i ∧ i.zero = some z ∧ z.cells.size = k)
    (h : ∀ w2 (cur : Array Value), New w w2 → Blk w2 w.heap.size e cur → cur.size = k → w2.heap.size = w.heap.size + 1 → wpList P ops Q rest (a.put o.dst (.pointer (some ⟨w.heap.size, 0, none⟩))) w2) : wpList P ops Q (o :: rest) a w := by
  refine wpList_plain hg fun K hK => ?_
  obtain ⟨i, z, hi, hz, hzs⟩ := hz
  have hrun : (execOp a.eval o).run P w = .ok (.value (.pointer (some ⟨w.heap.size, 0, none⟩))) (w.alloc (.cells z.cells e)) := by
    unfold execOp
    simp [ho, Instr.alloc, newVar, newRow, zeroValue, typeInfo, hi, hz]
  unfold Oper.wp
  rw [hrun]
  simp only [Oper.upon]
  exact hK _ _ (h _ _ ((Chg.refl w _).alloc _) (Blk.new w e z.cells) hzs (by simp))
/-- A whole variable is written. -/
theorem wpl_set (hg : o.guard = none) (x y : Operand) (e : TypeId) (ho : o.op = .store e x y) (hd : o.dst = none) (hS : StT P e k) (g : Nat) (t : TypeId) (cur : Array Value) (cs : List Value) (hx : a.eval x = .pointer (some ⟨g, 0, none⟩)) (hy : a.eval y = .agg cs.toArray)
    (hB : Blk w g t cur) (hl : cs.length = k) (hc : cur.size = k) (h1 : ∀ u ∈ cs, u.oneCell' = true)
    (h : ∀ w2, Chg w w2 (fun j => j = g) → Blk w2 g t cs.toArray → w2.heap.size = w.heap.size → wpList P ops Q rest a w2) : wpList P ops Q (o :: rest) a w := by
  refine wpl_store hg x y e ho hS g 0 t cur cs hx hy hB hl (by omega) h1 ?_
  simp only [hd, Act.put]
  refine h _ ((Chg.refl w _).setRow _ _ (fun _ => rfl)) ?_ (by simp)
  have hb := hB.set (layA cur 0 cs)
  rw [layA_all (by omega)] at hb ⊢
  exact hb
end

theorem Chg.put {w w2 w3 : World} {T : Nat → Prop} {g : Nat} (h : Chg w w2 T) (h3 : Chg w2 w3 (fun j => j = g)) (hg : w.heap.size ≤ g) : Chg w w3 T :=
  h.trans h3 (fun k hk e => absurd hk (Nat.not_lt.2 (Nat.le_trans hg (Nat.le_of_eq (show k = g from e).symm))))

/-- Terms in memory. -/
structure TmsAt (w : World) (A : Option Addr) (css : List (List Value)) (ts : List Tm) : Prop where
  len : css.length = ts.length
  src : SrcAt w A 7 css
  at_ : ∀ (j : Nat) (cs : List Value) (t : Tm), css[j]? = some cs → ts[j]? = some t → TmAt w cs t
theorem TmsAt.chg {w w' : World} {A : Option Addr} {css : List (List Value)} {ts : List Tm} (h : TmsAt w A css ts) (hc : New w w') : TmsAt w' A css ts :=
  ⟨h.len, h.src.chg hc (fun _ _ => id), fun j cs t h1 h2 => (h.at_ j cs t h1 h2).chg hc⟩

/-- One argument. -/
def bstep (env : Env) (p : Tm × Vl) : Env := match p.1 with
  | .var s => match lookE env s with
    | some _ => env
    | none => env ++ [(s, p.2)]
  | _ => env
/-- What is bound behind k arguments. -/
def envK (env : Env) (ts : List Tm) (vs : List Vl) (k : Nat) : Env := ((ts.zip vs).take k).foldl bstep env
theorem envK_succ {env : Env} {ts : List Tm} {vs : List Vl} {k : Nat} {t : Tm} {v : Vl} (ht : ts[k]? = some t) (hv : vs[k]? = some v) : envK env ts vs (k + 1) = bstep (envK env ts vs k) (t, v) := by
  unfold envK
  rw [take_succ_get (x := (t, v)) (by rw [List.getElem?_zip_eq_some]; exact ⟨ht, hv⟩), List.foldl_append]
  rfl
theorem bstep_some {env : Env} {s : ByteArray} {v x : Vl} (h : lookE env s = some x) : bstep env (.var s, v) = env := by
  unfold bstep; dsimp only; rw [h]
theorem bstep_none {env : Env} {s : ByteArray} {v : Vl} (h : lookE env s = none) : bstep env (.var s, v) = env ++ [(s, v)] := by
  unfold bstep; dsimp only; rw [h]
theorem bstep_len (env : Env) (p : Tm × Vl) : (bstep env p).length ≤ env.length + 1 := by
  unfold bstep
  split
  · split
    · omega
    · simp
  · omega
theorem envK_len (env : Env) (ts : List Tm) (vs : List Vl) : ∀ k, (envK env ts vs k).length ≤ env.length + k
  | 0 => by simp [envK]
  | k + 1 => by
    have ih := envK_len env ts vs k
    cases ht : ts[k]? with
    | none =>
      have : envK env ts vs (k + 1) = envK env ts vs k := by
        unfold envK
        have hl : (ts.zip vs).length ≤ k := by rw [List.length_zip]; have := List.getElem?_eq_none_iff.1 ht; omega
        rw [List.take_of_length_le (by omega), List.take_of_length_le hl]
      rw [this]; omega
    | some t =>
      cases hv : vs[k]? with
      | none =>
        have : envK env ts vs (k + 1) = envK env ts vs k := by
          unfold envK
          have hl : (ts.zip vs).length ≤ k := by rw [List.length_zip]; have := List.getElem?_eq_none_iff.1 hv; omega
          rw [List.take_of_length_le (by omega), List.take_of_length_le hl]
        rw [this]; omega
      | some v =>
        rw [envK_succ ht hv]
        have := bstep_len (envK env ts vs k) (t, v)
        omega
theorem bstep_ok {env : Env} (h : okEnv env) {p : Tm × Vl} (hp : okW p.2) : okEnv (bstep env p) := by
  unfold bstep
  split
  · split
    · exact h
    · intro q hq
      rcases List.mem_append.1 hq with hq | hq
      · exact h q hq
      · rw [List.mem_singleton.1 hq]; exact hp
  · exact h
theorem envK_ok {env : Env} (h : okEnv env) {ts : List Tm} {vs : List Vl} (hv : ∀ v ∈ vs, okW v) : ∀ k, okEnv (envK env ts vs k)
  | 0 => by simpa [envK] using h
  | k + 1 => by
    have ih := envK_ok (ts := ts) h hv k
    unfold envK
    cases hk : (ts.zip vs)[k]? with
    | none =>
      have hl := List.getElem?_eq_none_iff.1 hk
      unfold envK at ih
      rw [List.take_of_length_le hl] at ih
      rw [List.take_of_length_le (by omega)]
      exact ih
    | some p =>
      rw [take_succ_get hk, List.foldl_append]
      exact bstep_ok ih (hv _ (List.of_mem_zip (List.mem_of_getElem? hk)).2)

set_option maxHeartbeats 4000000 in
set_option maxRecDepth 100000 in
theorem bound_env (w0 w : World) (hw0 : New w0 w) (u0 : Value) (env : Env) (hov : Own w w0.heap.size 98 5 u0 (env.map bcs)) (A : Option Addr) (n c : Nat) (css : List (List Value)) (ts : List Tm) (hn : n = ts.length) (hts : TmsAt w0 A css ts)
    (Av : Option Addr) (cv : Nat) (vs : List Vl) (hnv : n = vs.length) (hvs : SrcAt w0 Av 4 (vs.map vcs)) (hm : env.length + n ≤ 1000) (hok : okEnv env) :
    Calls Try.prog 56 #[u0, .slice A n c, .slice Av n cv] w fun e w' => ∃ v', e = .returned v' ∧ Own w' w0.heap.size 98 5 v' ((envK env ts vs n).map bcs) ∧ New w0 w' := by
  have HN := Lib.hid hn
  have HNv := Lib.hid hnv
  have Hts := Lib.hid hts
  have Hvs := Lib.hid hvs
  have HOv0 := Lib.hid hov
  have Hw0 := Lib.hid hw0
  clear hn hnv hts hvs hov hw0 hok
  go_enter Try.func56, Try.ntmps56
  go_wp2_with fail
  go_loopw [0, 13] (fun u0 u13 wr => ∃ (k : Nat), k ≤ n ∧ u13 = .int .i64 k ∧ Own wr w0.heap.size 98 5 u0 ((envK env ts vs k).map bcs) ∧ New w0 wr) (fun _ u _ => n - (intOf u).toNat)
  case atStart => exact ⟨0, Nat.zero_le _, rfl, HOv0.out, Hw0.out⟩
  case round =>
    obtain ⟨k, hk, rfl, hov, hN⟩ := hrel
    obtain ⟨Ao, co, rfl, hc1, hc2⟩ := hov.form
    have HOv := Lib.hid hov
    have HNw := Lib.hid hN
    have hle := envK_len env ts vs k
    obtain ⟨ek, hek⟩ : ∃ ek, envK env ts vs k = ek := ⟨_, rfl⟩
    rw [hek] at hle hov ⊢
    rw [hek, List.length_map] at HOv
    rw [List.length_map]
    have Hek := Lib.hid hek
    clear hov hN hc1 hc2 hek
    by_cases hlt : k < n
    · obtain ⟨t, ht⟩ : ∃ t, ts[k]? = some t := ⟨_, List.getElem?_eq_getElem (by rw [← HN.out]; exact hlt)⟩
      obtain ⟨v, hv⟩ : ∃ v, vs[k]? = some v := ⟨_, List.getElem?_eq_getElem (by rw [← HNv.out]; exact hlt)⟩
      obtain ⟨cs, hcs⟩ : ∃ cs, css[k]? = some cs := ⟨_, List.getElem?_eq_getElem (by rw [Hts.out.len, ← HN.out]; exact hlt)⟩
      obtain ⟨ad, rfl, hrw⟩ := Hts.out.src (by rw [Hts.out.len, ← HN.out]; omega)
      obtain ⟨av, rfl, hrv⟩ := Hvs.out (by rw [List.length_map, ← HNv.out]; omega)
      have hat := (hrw k cs hcs).2.chg HNw.out id
      have hatv := (hrv k (vcs v) (by rw [List.getElem?_map, hv]; rfl)).2.chg HNw.out id
      have htm := Hts.out.at_ k cs t hcs ht
      have h1c := htm.one
      have hsu := envK_succ (env := env) ht hv
      rw [Hek.out] at hsu
      obtain ⟨t0, t1, t2, t3, t4, t5, t6, rfl⟩ := htm.seven
      have Hat := Lib.hid hat
      have Hatv := Lib.hid hatv
      have Htm := Lib.hid htm
      have H1c := Lib.hid h1c
      have Hsu := Lib.hid hsu
      clear hat hatv htm h1c hsu hrw hrv hcs ht hv
      go_upto_region 4 with first
        | ((with_reducible refine wpl_load rfl (.tmp 16) 39 rfl stTerm (ad.add (k * 7)) _ ?_ rfl Hat.out ?_); exact rfl)
        | (with_reducible refine wpl_new rfl 39 rfl elTerm.zero ?_; intro w2 cur hc2 hb2 hsz hs2; have HC2 := Lib.hid hc2; have HB2 := Lib.hid hb2; have Hsz := Lib.hid hsz; clear hc2 hb2 hsz hs2)
        | ((with_reducible refine wpl_set rfl (.tmp 8) (.tmp 17) 39 rfl rfl stTerm wr.heap.size 39 _ [t0, t1, t2, t3, t4, t5, t6] ?_ ?_ HB2.out rfl Hsz.out H1c.out ?_); exact rfl; exact rfl; intro w3 hc3 hb3 hs3; have HC3 := Lib.hid (HC2.out.put hc3 (Nat.le_refl _)); have HB3 := Lib.hid hb3; clear hc3 hb3 hs3)
      have HOv3 := Lib.hid (HOv.out.chg HC3.out (fun _ _ x => x))
      have HN3 := Lib.hid (HNw.out.trans HC3.out (fun _ _ x => x))
      have Hatv3 := Lib.hid (Hatv.out.chg HC3.out id)
      have hsz3 := HC3.out.size
      have hb3 := Blk.lt HB3.out
      obtain ⟨bx, hbx⟩ : ∃ bx, wr.heap.size = bx := ⟨_, rfl⟩
      rw [hbx] at HB3 hb3 ⊢
      clear HC2 HB2 Hsz HC3 HOv HNw Hat Hatv H1c hbx hsz3
      cases t with
      | val x =>
        have e0 : t0 = .int .i64 2 := by have := Htm.out; injection (show [t0, t1, t2, t3, t4, t5, t6] = _ from this)
        have c0 := HB3.out.cell 0
        simp only [List.getElem?_toArray, List.getElem?_cons_zero, e0] at c0
        clear e0
        go_wp2_with fail
        go_roundw
        case rel => exact ⟨k + 1, by omega, by go_num, by rw [Hsu.out]; exact HOv3.out, HN3.out⟩
        case measure => simp [intOf]; omega
      | op m x y =>
        have e0 : t0 = .int .i64 4 := by obtain ⟨_, _, _, _, h, _⟩ := Htm.out; injection (show [t0, t1, t2, t3, t4, t5, t6] = _ from h)
        have c0 := HB3.out.cell 0
        simp only [List.getElem?_toArray, List.getElem?_cons_zero, e0] at c0
        clear e0
        go_wp2_with fail
        go_roundw
        case rel => exact ⟨k + 1, by omega, by go_num, by rw [Hsu.out]; exact HOv3.out, HN3.out⟩
        case measure => simp [intOf]; omega
      | var s =>
        obtain ⟨e0, e1⟩ : t0 = .int .i64 1 ∧ t1 = .string s := by
          have := Htm.out
          injection (show [t0, t1, t2, t3, t4, t5, t6] = _ from this) with h1 h2
          injection h2 with h2 _
          exact ⟨h1, h2⟩
        have c0 := HB3.out.cell 0
        have c1 := HB3.out.cell 1
        simp only [List.getElem?_toArray, List.getElem?_cons_zero, List.getElem?_cons_succ, e0, e1] at c0 c1
        clear e0
        have hlk := lookup_env w3 Ao ek.length co ek s rfl (by omega) (HOv3.out.rows (A := Ao) (n := ek.length) (c := co) rfl).2
        obtain ⟨o, ho⟩ : ∃ o, lookE ek s = o := ⟨_, rfl⟩
        rw [ho] at hlk
        have Hlk := Lib.hid hlk
        have Ho := Lib.hid ho
        clear hlk ho
        cases o with
        | some x =>
          unfold optV at Hlk
          dsimp only [Option.getD, Option.isSome, vval] at Hlk
          go_wp2_with first
            | (go_at_call 59; refine Hlk.out.mono ?_; rintro e w4 ⟨rfl, hc4⟩; have HC4 := Lib.hid hc4; clear hc4)
            | ((with_reducible refine wpl_box rfl rfl 9 (.tmp 26) 37 rfl rfl rfl rfl stVal4 elValue.zero (vcs x) ?_ ?_ (vcl_len _) (vcl_one _) ?_); exact (by decide : 9 < 42); exact rfl; intro w5 hc5 hb5 hs5; have HC5 := Lib.hid (HC4.out.trans hc5 (fun _ _ x => x)); clear hc5 hb5 hs5)
          go_roundw
          case rel => exact ⟨k + 1, by omega, by go_num, by rw [Hsu.out, bstep_some Ho.out]; exact HOv3.out.chg HC5.out (fun _ _ x => x), HN3.out.trans HC5.out (fun _ _ x => x)⟩
          case measure => simp [intOf]; omega
        | none =>
          unfold optV at Hlk
          dsimp only [Option.getD, Option.isSome, vval, zV] at Hlk
          go_upto_region 7 with first
            | (go_at_call 59; refine Hlk.out.mono ?_; rintro e w4 ⟨rfl, hc4⟩; have HC4 := Lib.hid hc4; clear hc4)
            | ((with_reducible refine wpl_box rfl rfl 9 (.tmp 26) 37 rfl rfl rfl rfl stVal4 elValue.zero (vcs zV) ?_ ?_ (vcl_len _) (vcl_one _) ?_); exact (by decide : 9 < 42); exact rfl; intro w5 hc5 hb5 hs5; have HC5 := Lib.hid (HC4.out.trans hc5 (fun _ _ x => x)); clear hc5 hb5 hs5)
          refine wp_region_at (by kernel_rfl) ?_
          have hcd := (HC5.out.drew)
          have HOvd := Lib.hid (HOv3.out.chg hcd (fun _ _ x => x))
          have HNd := Lib.hid (HN3.out.trans hcd (fun _ _ x => x))
          have Hs := Lib.hid (hcd.cellS c1 id)
          have Hvv := Lib.hid (Hatv3.out.chg hcd id)
          clear c0 c1 Hatv3 HN3 HOv3 HC4 HC5 hcd Hlk
          generalize w5.drew = wd at HOvd HNd Hs Hvv ⊢
          have q0 : (0 : Int) ≤ (k : Int) := by omega
          have q1 : (k : Int) < (n : Int) := by omega
          obtain ⟨J, HJ0, HJ1, HJn⟩ : ∃ J : Bool → World → Prop, (∀ W, J false W ↔ W = wd) ∧ (∀ {W}, J true W ↔ W = wd.alloc (.cells #[.string s, .int .i64 v.k, .int .i64 v.i, .string v.t, .slice none 0 0] 98)) ∧ ∀ d W, J d W → New wd W :=
            ⟨fun d W => W = if d then wd.alloc (.cells #[.string s, .int .i64 v.k, .int .i64 v.i, .string v.t, .slice none 0 0] 98) else wd, fun W => Iff.rfl, Iff.rfl, fun d W h => by rw [show W = _ from h]; cases d; exact Chg.refl _ _; exact (Chg.refl _ _).alloc _⟩
          refine AtN.segV2 0 9 8 (fun
            | 0 => .slice Ao ek.length co
            | 1 => .pointer (some ⟨bx, 1, none⟩)
            | 2 => .string s
            | 3 => .slice (some av) n cv
            | 4 => .int .i64 k
            | 5 => .pointer (some (av.add (k * 4)))
            | 6 => .agg #[.int .i64 v.k, .int .i64 v.i, .string v.t, .slice none 0 0]
            | 7 => .agg #[.string s, .int .i64 v.k, .int .i64 v.i, .string v.t, .slice none 0 0]
            | _ => .slice (some ⟨wd.heap.size, 0, none⟩) 1 1)
            [(30, .slice Ao ek.length co), (31, .pointer (some ⟨bx, 1, none⟩)), (32, .string s), (33, .slice (some av) n cv), (34, .int .i64 k), (35, .pointer (some (av.add (k * 4)))), (36, .agg #[.int .i64 v.k, .int .i64 v.i, .string v.t, .slice none 0 0]), (37, .agg #[.string s, .int .i64 v.k, .int .i64 v.i, .string v.t, .slice none 0 0]), (38, .slice (some ⟨wd.heap.size, 0, none⟩) 1 1)]
            J (by kernel_rfl) (by kernel_rfl) (by kernel_rfl) (by kernel_rfl) rfl ((HJ0 _).2 rfl) (fun i hn hi o ho A0 W d hJ hμ hin hk => ?_) (fun wq hJ => ?_)
          · rcases (show i = 0 ∨ i = 1 ∨ i = 2 ∨ i = 3 ∨ i = 4 ∨ i = 5 ∨ i = 6 ∨ i = 7 ∨ i = 8 by omega) with rfl | rfl | rfl | rfl | rfl | rfl | rfl | rfl | rfl
            · cases ho
              exact .quiet (exec_move 0 _ rfl (hk 0 (by kernel_rfl))) hJ
            · cases ho
              have h8 : A0.tmps[8]?.getD undef = .pointer (some ⟨bx, 0, none⟩) := hk 8 (by kernel_rfl)
              exact .quiet (by simp [go_sem, h8]) hJ
            · cases ho
              have h31 : A0.tmps[31]?.getD undef = .pointer (some ⟨bx, 1, none⟩) := hin 1 31 (by kernel_rfl)
              have hN := HJn d W hJ
              exact .quiet (by simp [go_sem, h31, hN.cellS Hs.out id]) hJ
            · cases ho
              exact .quiet (exec_move 2 _ rfl (hk 2 (by kernel_rfl))) hJ
            · cases ho
              exact .quiet (exec_move 7 _ rfl (hk 7 (by kernel_rfl))) hJ
            · cases ho
              have h33 : A0.tmps[33]?.getD undef = .slice (some av) n cv := hin 3 33 (by kernel_rfl)
              have h34 : A0.tmps[34]?.getD undef = .int .i64 k := hin 4 34 (by kernel_rfl)
              exact .quiet (by simp [go_sem, h33, h34, q0, q1]) hJ
            · cases ho
              have h35 : A0.tmps[35]?.getD undef = .pointer (some (av.add (k * 4))) := hin 5 35 (by kernel_rfl)
              have hN := HJn d W hJ
              exact .quiet (exec_load 35 _ rfl stVal4 (av.add (k * 4)) (vcs v) h35 (vcl_len v) (Hvv.out.chg hN id)) hJ
            · cases ho
              have h32 : A0.tmps[32]?.getD undef = .string s := hin 2 32 (by kernel_rfl)
              have h36 : A0.tmps[36]?.getD undef = .agg #[.int .i64 v.k, .int .i64 v.i, .string v.t, .slice none 0 0] := hin 6 36 (by kernel_rfl)
              exact .quiet (by simp [go_sem, h32, h36]) hJ
            · cases ho
              have h37 : A0.tmps[37]?.getD undef = .agg #[.string s, .int .i64 v.k, .int .i64 v.i, .string v.t, .slice none 0 0] := hin 7 37 (by kernel_rfl)
              obtain rfl := hμ rfl
              obtain rfl := (HJ0 W).1 hJ
              exact .value (W' := W.alloc (.cells #[.string s, .int .i64 v.k, .int .i64 v.i, .string v.t, .slice none 0 0] 98)) (by simp [go_sem, h37]) ⟨HJ1.2 rfl, rfl⟩
          simp only [putsL, Act.put, List.setIfInBounds_toArray, List.set_cons_succ, List.set_cons_zero]
          obtain rfl := HJ1.1 (show J true wq from hJ)
          clear hJ
          obtain ⟨wn, hwn⟩ : ∃ wn, wn = wd.alloc (.cells #[.string s, .int .i64 v.k, .int .i64 v.i, .string v.t, .slice none 0 0] 98) := ⟨_, rfl⟩
          have hnn : New wd wn := by rw [hwn]; exact (Chg.refl _ _).alloc _
          have hbn : Blk wn wd.heap.size 98 #[.string s, .int .i64 v.k, .int .i64 v.i, .string v.t, .slice none 0 0] := by rw [hwn]; exact Blk.new _ _ _
          have hlw := HNd.out.size
          have hrun := elScope.appendS (HOvd.out.chg hnn (fun _ _ x => x)) (Nat.le_trans hlw hnn.size) (some ⟨wd.heap.size, 0, none⟩) 1 1 [bcs (s, v)] rfl (fun cs hc => by rw [List.mem_singleton.1 hc]; rfl) (fun cs hc => bcs_one [(s, v)] cs hc) (src_one (k := 5) (cs := bcs (s, v)) (Blk.at_ hbn) rfl) (by rw [List.length_map]; omega) (by rw [List.length_map]; unfold maxLen; omega) 99
          rw [hwn] at hrun
          obtain ⟨v6, w6, hrun, hown6, hc6, -⟩ := hrun
          have Hrun := Lib.hid hrun
          have Hown6 := Lib.hid hown6
          have HC6 := Lib.hid ((hnn.mono (T' := fun k => (Value.slice Ao ek.length co).ownBlock = some k) (fun _ _ x => x.elim)).trans (hwn ▸ hc6) (fun _ _ x => x))
          have HT := Lib.hid (fun g (hg : (Value.slice Ao ek.length co).ownBlock = some g) => (HOvd.out.lt hg).1)
          clear hrun hbn hnn hwn hown6 hc6 HOvd Hs Hvv HJ0 HJ1 HJn hlw
          refine AtN.list 9 11 (by kernel_rfl) ?_
          change wpList _ _ _ [_, _] _ _
          go_wp2_with ((with_reducible refine wpl_append rfl (.tmp 30) (.tmp 38) 99 99 rfl ?_ ?_ Hrun.out ?_); exact rfl; exact rfl)
          change AtN _ _ _ 11 _ _
          refine AtN.done rfl ?_
          go_wp2_with fail
          go_roundw
          case rel =>
            refine ⟨k + 1, by omega, by go_num, by rw [Hsu.out, bstep_none Ho.out, List.map_append]; exact Hown6.out, HNd.out.trans HC6.out (fun k hk h => ?_)⟩
            have := HT.out k h
            omega
          case measure => simp [intOf]; omega
    · go_wp2_with fail
      go_ret
      refine ⟨_, rfl, ?_, HNw.out⟩
      rw [show n = k by omega, Hek.out]
      exact HOv.out
end Go.Proofs.Ytfocjfnkcabbgaa
