/- bind: scope.eval at sums. -/
import Derived.Test.YtenkobgeflckdabAll
set_option linter.unusedVariables false
set_option linter.unusedSimpArgs false
namespace Go.Proofs.Ytenkobgeflckdab
open Go.RowKit Go.Shelf

set_option maxHeartbeats 4000000 in
set_option maxRecDepth 100000 in
theorem eval_op_none (w : World) (sc : Value) (m : Bool) (ad : Addr) (c : Nat) (ca cb : List Value) (oa ob : Option Vl) (hlt : ad.block < w.heap.size) (hrow : RowsAt w ad 7 [ca, cb]) (h1a : ∀ u ∈ ca, u.oneCell' = true) (h1b : ∀ u ∈ cb, u.oneCell' = true)
    (ha : ∀ W, New w W → Calls Try.prog 54 #[sc, .agg ca.toArray] W fun e W' => e = .returned (optV oa) ∧ New W W')
    (hb : ∀ W, New w W → Calls Try.prog 54 #[sc, .agg cb.toArray] W fun e W' => e = .returned (optV ob) ∧ New W W') (hno : allO [oa, ob] = none) :
    Calls Try.prog 54 #[sc, .agg #[.int .i64 4, .string (opS m), .int .i64 0, .int .i64 0, .string ⟨#[]⟩, .slice none 0 0, .slice (some ad) 2 c]] w fun e w' => e = .returned (optV none) ∧ New w w' := by
  obtain ⟨w1, hw1⟩ : ∃ w1, w1 = ((w.alloc (.cells #[.int .i64 4, .string (opS m), .int .i64 0, .int .i64 0, .string ⟨#[]⟩, .slice none 0 0, .slice (some ad) 2 c] 48)).alloc (.cells #[.int .i64 0, .int .i64 0, .string ⟨#[]⟩, .slice none 0 0] 46)) := ⟨_, rfl⟩
  have hc : New w w1 := by rw [hw1]; exact ((Chg.refl w _).alloc _).alloc _
  have hB1 : Blk w1 w.heap.size 48 #[.int .i64 4, .string (opS m), .int .i64 0, .int .i64 0, .string ⟨#[]⟩, .slice none 0 0, .slice (some ad) 2 c] := by rw [hw1]; exact (Blk.new w _ _).alloc _
  have hB2 : Blk w1 (w.heap.size + 1) 46 #[.int .i64 0, .int .i64 0, .string ⟨#[]⟩, .slice none 0 0] := by
    rw [hw1]
    have := Blk.new (w.alloc (.cells #[.int .i64 4, .string (opS m), .int .i64 0, .int .i64 0, .string ⟨#[]⟩, .slice none 0 0, .slice (some ad) 2 c] 48)) 46 #[.int .i64 0, .int .i64 0, .string ⟨#[]⟩, .slice none 0 0]
    rwa [World.size_alloc] at this
  have hall := all_val w1 (some ad) 2 c [ca, cb] rfl (by omega) (fun _ => ⟨ad, rfl, hrow.chg hc id⟩) 54 (enters_of Try.func54 (by kernel_rfl) rfl) sc [oa, ob] rfl (fun j cs o hj ho W hW => by
    match j, hj, ho with
    | 0, hj, ho => cases hj; cases ho; exact ha W (hc.trans hW (fun _ _ x => x))
    | 1, hj, ho => cases hj; cases ho; exact hb W (hc.trans hW (fun _ _ x => x))
    | j + 2, hj, ho => simp at hj) (fun cs hcs => by
    rcases List.mem_cons.1 hcs with rfl | hcs
    · exact h1a
    · rw [List.mem_singleton.1 hcs]; exact h1b)
  have HALL := Lib.hid (hall.mono (R' := fun e w' => New w1 w' ∧ e = .returned (.tuple #[.slice none 0 0, .bool false])) (by
    rintro e w' ⟨hc, ⟨_, he⟩ | ⟨us, v, hu, _⟩⟩
    · exact ⟨hc, he⟩
    · rw [hno] at hu; cases hu))
  have HB1 := Lib.hid hB1
  have HB2 := Lib.hid hB2
  have Hc := Lib.hid hc
  have HW := Lib.hid hw1
  clear hall hB1 hB2 hc hw1 ha hb h1a h1b hrow hlt hno
  go_enter Try.func54, Try.ntmps54
  go_wp2_with first
    | (go_at_call 63; rw [← HW.out]; refine HALL.out.mono ?_; rintro e w2 ⟨hc2, rfl⟩; replace HB1 := Lib.hid (HB1.out.chg hc2 id); replace HB2 := Lib.hid (HB2.out.chg hc2 id); replace Hc := Lib.hid (Hc.out.trans hc2 (fun _ _ x => x)); have c0 := HB1.out.cell 0; simp only [List.getElem?_toArray, List.getElem?_cons_zero] at c0; clear hc2)
    | ((with_reducible refine wpl_store rfl (.tmp 4) (.tmp 33) 46 rfl stVal4 (w.heap.size + 1) 0 46 _ (vcs zV) ?_ ?_ HB2.out (vcl_len _) ?_ (vcl_one zV) ?_); exact rfl; exact rfl; exact Nat.le_refl _)
  refine bodyPost_ret (v := .tuple #[.agg (vcs zV).toArray, .bool false]) (res_cell2 (p := 4) (q := 5) stVal4 rfl _ _ ⟨w.heap.size + 1, 0, none⟩ (vcs zV) rfl (stored_at HB2.out rfl) rfl) rfl ⟨rfl, Hc.out.setRow _ _ (fun h => absurd h (by omega))⟩

set_option maxHeartbeats 4000000 in
set_option maxRecDepth 100000 in
theorem eval_op_some (w : World) (sc : Value) (m : Bool) (ad : Addr) (c : Nat) (ca cb : List Value) (x y : Vl) (hlt : ad.block < w.heap.size) (hrow : RowsAt w ad 7 [ca, cb]) (h1a : ∀ u ∈ ca, u.oneCell' = true) (h1b : ∀ u ∈ cb, u.oneCell' = true)
    (ha : ∀ W, New w W → Calls Try.prog 54 #[sc, .agg ca.toArray] W fun e W' => e = .returned (optV (some x)) ∧ New W W')
    (hb : ∀ W, New w W → Calls Try.prog 54 #[sc, .agg cb.toArray] W fun e W' => e = .returned (optV (some y)) ∧ New W W') (okx : okW x) (oky : okW y) :
    Calls Try.prog 54 #[sc, .agg #[.int .i64 4, .string (opS m), .int .i64 0, .int .i64 0, .string ⟨#[]⟩, .slice none 0 0, .slice (some ad) 2 c]] w fun e w' => e = .returned (optV (opV m x y)) ∧ New w w' := by
  have hop := fun W => op_val W m x y okx.1 oky.1 okx.2.1 okx.2.2 oky.2.1 oky.2.2
  obtain ⟨u, q, hu⟩ : ∃ (u : Vl) (q : Bool), optV (opV m x y) = .tuple #[.agg (vcs u).toArray, .bool q] := ⟨_, _, rfl⟩
  rw [hu] at hop ⊢
  obtain ⟨w1, hw1⟩ : ∃ w1, w1 = ((w.alloc (.cells #[.int .i64 4, .string (opS m), .int .i64 0, .int .i64 0, .string ⟨#[]⟩, .slice none 0 0, .slice (some ad) 2 c] 48)).alloc (.cells #[.int .i64 0, .int .i64 0, .string ⟨#[]⟩, .slice none 0 0] 46)) := ⟨_, rfl⟩
  have hc : New w w1 := by rw [hw1]; exact ((Chg.refl w _).alloc _).alloc _
  have hB1 : Blk w1 w.heap.size 48 #[.int .i64 4, .string (opS m), .int .i64 0, .int .i64 0, .string ⟨#[]⟩, .slice none 0 0, .slice (some ad) 2 c] := by rw [hw1]; exact (Blk.new w _ _).alloc _
  have hB2 : Blk w1 (w.heap.size + 1) 46 #[.int .i64 0, .int .i64 0, .string ⟨#[]⟩, .slice none 0 0] := by
    rw [hw1]
    have := Blk.new (w.alloc (.cells #[.int .i64 4, .string (opS m), .int .i64 0, .int .i64 0, .string ⟨#[]⟩, .slice none 0 0, .slice (some ad) 2 c] 48)) 46 #[.int .i64 0, .int .i64 0, .string ⟨#[]⟩, .slice none 0 0]
    rwa [World.size_alloc] at this
  have hall := all_val w1 (some ad) 2 c [ca, cb] rfl (by omega) (fun _ => ⟨ad, rfl, hrow.chg hc id⟩) 54 (enters_of Try.func54 (by kernel_rfl) rfl) sc [some x, some y] rfl (fun j cs o hj ho W hW => by
    match j, hj, ho with
    | 0, hj, ho => cases hj; cases ho; exact ha W (hc.trans hW (fun _ _ x => x))
    | 1, hj, ho => cases hj; cases ho; exact hb W (hc.trans hW (fun _ _ x => x))
    | j + 2, hj, ho => simp at hj) (fun cs hcs => by
    rcases List.mem_cons.1 hcs with rfl | hcs
    · exact h1a
    · rw [List.mem_singleton.1 hcs]; exact h1b)
  have HALL := Lib.hid (hall.mono (R' := fun e w' => New w1 w' ∧ ∃ A c, e = .returned (.tuple #[.slice (some A) 2 c, .bool true]) ∧ RowsAt w' A 4 [vcs x, vcs y]) (by
    rintro e w' ⟨hc, ⟨h, _⟩ | ⟨us, v, hu, he, hown⟩⟩
    · cases h
    · cases hu
      obtain ⟨A, c, hv, _, _⟩ := hown.form
      obtain ⟨B, hB, hr⟩ := (hown.rows hv).2 (by simp)
      subst hB
      exact ⟨hc, B, c, by rw [he, hv]; rfl, hr⟩))
  have HB1 := Lib.hid hB1
  have HB2 := Lib.hid hB2
  have Hc := Lib.hid hc
  have HW := Lib.hid hw1
  have HOp := Lib.hid hop
  clear hall hB1 hB2 hc hw1 ha hb h1a h1b hrow hlt hop hu okx oky
  go_enter Try.func54, Try.ntmps54
  go_upto_region 12 with first
    | (go_at_call 63; rw [← HW.out]; refine HALL.out.mono ?_; rintro e w2 ⟨hc2, B, d, rfl, hr⟩; replace HB1 := Lib.hid (HB1.out.chg hc2 id); replace HB2 := Lib.hid (HB2.out.chg hc2 id); replace Hc := Lib.hid (Hc.out.trans hc2 (fun _ _ x => x)); have Hr := Lib.hid hr; have c0 := HB1.out.cell 0; simp only [List.getElem?_toArray, List.getElem?_cons_zero] at c0; clear hc2 hr)
    | fail
  refine wp_region_at (by kernel_rfl) ?_
  have HBd := Lib.hid (HB1.out.chg (Chg.refl _ (fun _ => False)).drew id)
  have HCd := Lib.hid (HB2.out.chg (Chg.refl _ (fun _ => False)).drew id)
  have HRd := Lib.hid (Hr.out.chg (Chg.refl _ (fun _ => False)).drew id)
  have Hd := Lib.hid (Hc.out.drew)
  clear HB1 HB2 Hr Hc c0
  generalize w2.drew = wd at HBd HCd HRd Hd ⊢
  have hx := (HRd.out 0 _ rfl).2
  have hy := (HRd.out 1 _ rfl).2
  have Hx := Lib.hid hx
  have Hy := Lib.hid hy
  have hs := HBd.out.cell 1
  simp only [List.getElem?_toArray, List.getElem?_cons_zero, List.getElem?_cons_succ] at hs
  have Hs := Lib.hid hs
  clear hx hy hs HRd
  refine AtN.segQ2 0 8 (fun
    | 0 => .pointer (some ⟨w.heap.size, 1, none⟩)
    | 1 => .string (opS m)
    | 2 => .slice (some B) 2 d
    | 3 => .pointer (some (B.add 0))
    | 4 => .agg #[.int .i64 x.k, .int .i64 x.i, .string x.t, .slice none 0 0]
    | 5 => .slice (some B) 2 d
    | 6 => .pointer (some (B.add 4))
    | _ => .agg #[.int .i64 y.k, .int .i64 y.i, .string y.t, .slice none 0 0])
    [(53, .pointer (some ⟨w.heap.size, 1, none⟩)), (54, .string (opS m)), (55, .slice (some B) 2 d), (56, .pointer (some (B.add 0))), (57, .agg #[.int .i64 x.k, .int .i64 x.i, .string x.t, .slice none 0 0]), (58, .slice (some B) 2 d), (59, .pointer (some (B.add 4))), (60, .agg #[.int .i64 y.k, .int .i64 y.i, .string y.t, .slice none 0 0])] (by kernel_rfl) (by kernel_rfl) (by kernel_rfl) (by kernel_rfl) rfl (fun i hn hi o ho A0 hin hk => ?_) ?_
  · rcases (show i = 0 ∨ i = 1 ∨ i = 2 ∨ i = 3 ∨ i = 4 ∨ i = 5 ∨ i = 6 ∨ i = 7 by omega) with rfl | rfl | rfl | rfl | rfl | rfl | rfl | rfl
    · cases ho
      have h3 : A0.tmps[3]?.getD undef = .pointer (some ⟨w.heap.size, 0, none⟩) := hk 3 (by kernel_rfl)
      exact by simp [go_sem, h3]
    · cases ho
      have h53 : A0.tmps[53]?.getD undef = .pointer (some ⟨w.heap.size, 1, none⟩) := hin 0 53 (by kernel_rfl)
      exact by simp [go_sem, h53, Hs.out]
    · cases ho
      exact exec_move 6 _ rfl (hk 6 (by kernel_rfl))
    · cases ho
      have h55 : A0.tmps[55]?.getD undef = .slice (some B) 2 d := hin 2 55 (by kernel_rfl)
      exact by simp [go_sem, h55]
    · cases ho
      have h56 : A0.tmps[56]?.getD undef = .pointer (some (B.add 0)) := hin 3 56 (by kernel_rfl)
      exact exec_load 56 _ rfl stVal4 (B.add (0 * 4)) (vcs x) h56 (vcl_len x) Hx.out
    · cases ho
      exact exec_move 6 _ rfl (hk 6 (by kernel_rfl))
    · cases ho
      have h58 : A0.tmps[58]?.getD undef = .slice (some B) 2 d := hin 5 58 (by kernel_rfl)
      exact by simp [go_sem, h58]
    · cases ho
      have h59 : A0.tmps[59]?.getD undef = .pointer (some (B.add 4)) := hin 6 59 (by kernel_rfl)
      exact exec_load 59 _ rfl stVal4 (B.add (1 * 4)) (vcs y) h59 (vcl_len y) Hy.out
  simp only [putsL, Act.put, List.setIfInBounds_toArray, List.set_cons_succ, List.set_cons_zero]
  refine AtN.list 8 9 (by kernel_rfl) ?_
  change wpList _ _ _ [_] _ _
  go_wp2_with (go_at_call 65; refine (HOp.out _).mono ?_; rintro e w3 ⟨rfl, hc3⟩; replace HCd := Lib.hid (HCd.out.chg hc3 id); replace Hd := Lib.hid (Hd.out.trans hc3 (fun _ _ x => x)); clear hc3)
  change AtN _ _ _ 9 _ _
  refine AtN.segQ2 9 11 (fun
    | 9 => .agg #[.int .i64 u.k, .int .i64 u.i, .string u.t, .slice none 0 0]
    | _ => .bool q)
    [(62, .agg #[.int .i64 u.k, .int .i64 u.i, .string u.t, .slice none 0 0]), (63, .bool q)] (by kernel_rfl) (by kernel_rfl) (by kernel_rfl) (by kernel_rfl) rfl (fun i hn hi o ho A0 hin hk => ?_) ?_
  · rcases (show i = 9 ∨ i = 10 by omega) with rfl | rfl
    · cases ho
      have h61 : A0.tmps[61]?.getD undef = .tuple #[.agg #[.int .i64 u.k, .int .i64 u.i, .string u.t, .slice none 0 0], .bool q] := hk 61 (by kernel_rfl)
      exact by simp [go_sem, h61]
    · cases ho
      have h61 : A0.tmps[61]?.getD undef = .tuple #[.agg #[.int .i64 u.k, .int .i64 u.i, .string u.t, .slice none 0 0], .bool q] := hk 61 (by kernel_rfl)
      exact by simp [go_sem, h61]
  simp only [putsL, Act.put, List.setIfInBounds_toArray, List.set_cons_succ, List.set_cons_zero]
  refine AtN.list 11 13 (by kernel_rfl) ?_
  change wpList _ _ _ [_, _] _ _
  go_wp2_with ((with_reducible refine wpl_store rfl (.tmp 4) (.tmp 62) 46 rfl stVal4 (w.heap.size + 1) 0 46 _ (vcs u) ?_ ?_ HCd.out (vcl_len _) ?_ (vcl_one u) ?_); exact rfl; exact rfl; exact Nat.le_refl _)
  change AtN _ _ _ 13 _ _
  refine AtN.done rfl ?_
  go_wp2_with fail
  refine bodyPost_ret (v := .tuple #[.agg (vcs u).toArray, .bool q]) (res_cell2 (p := 4) (q := 5) stVal4 rfl _ _ ⟨w.heap.size + 1, 0, none⟩ (vcs u) rfl (stored_at HCd.out rfl) rfl) rfl ⟨rfl, Hd.out.setRow _ _ (fun h => absurd h (by omega))⟩

theorem TmAt.one {w : World} {t : Tm} {cs : List Value} (h : TmAt w cs t) : ∀ u ∈ cs, u.oneCell' = true := by
  cases t with
  | var s => rw [show cs = _ from h]; intro u hu; simp only [List.cons_append, List.nil_append, vcs, List.mem_cons, List.not_mem_nil, or_false] at hu; rcases hu with rfl | rfl | rfl | rfl | rfl | rfl | rfl <;> rfl
  | val v => rw [show cs = _ from h]; intro u hu; simp only [List.cons_append, List.nil_append, vcs, List.mem_cons, List.not_mem_nil, or_false] at hu; rcases hu with rfl | rfl | rfl | rfl | rfl | rfl | rfl <;> rfl
  | op m a b => obtain ⟨ad, c, ca, cb, h1, _⟩ := h; rw [h1]; intro u hu; simp only [List.cons_append, List.nil_append, vcs, List.mem_cons, List.not_mem_nil, or_false] at hu; rcases hu with rfl | rfl | rfl | rfl | rfl | rfl | rfl <;> rfl

/-- scope.eval. -/
theorem eval_tm (A : Option Addr) (n c : Nat) (env : Env) (hn : n = env.length) (hm : n ≤ 1000) (hok : okEnv env) : ∀ (t : Tm), okTm t → ∀ (w : World) (cs : List Value), SrcAt w A 5 (env.map bcs) → TmAt w cs t →
    Calls Try.prog 54 #[.slice A n c, .agg cs.toArray] w fun e w' => e = .returned (optV (evalT env t)) ∧ New w w'
  | .var s, _, w, cs, hs, h => by
    rw [show cs = _ from h]
    exact eval_var w A n c env s hn hm hs
  | .val v, _, w, cs, hs, h => by
    rw [show cs = _ from h]
    exact eval_lit w _ v
  | .op m a b, ht, w, cs, hs, h => by
    obtain ⟨ad, d, ca, cb, rfl, hlt, hrow, ha, hb⟩ := h
    have ka : ∀ W, New w W → Calls Try.prog 54 #[.slice A n c, .agg ca.toArray] W fun e W' => e = .returned (optV (evalT env a)) ∧ New W W' := fun W hW => eval_tm A n c env hn hm hok a ht.1 W ca (hs.chg hW (fun _ _ => id)) (ha.chg hW)
    have kb : ∀ W, New w W → Calls Try.prog 54 #[.slice A n c, .agg cb.toArray] W fun e W' => e = .returned (optV (evalT env b)) ∧ New W W' := fun W hW => eval_tm A n c env hn hm hok b ht.2 W cb (hs.chg hW (fun _ _ => id)) (hb.chg hW)
    have oka := fun x => evalT_ok hok ht.1 (v := x)
    have okb := fun x => evalT_ok hok ht.2 (v := x)
    have he : evalT env (.op m a b) = match evalT env a, evalT env b with
      | some x, some y => opV m x y
      | _, _ => none := by rw [evalT]; rfl
    rw [he]
    cases h1 : evalT env a with
    | none =>
      rw [h1] at ka
      exact eval_op_none w _ m ad d ca cb none _ hlt hrow ha.one hb.one ka kb rfl
    | some x =>
      rw [h1] at ka
      cases h2 : evalT env b with
      | none =>
        rw [h2] at kb
        exact eval_op_none w _ m ad d ca cb _ none hlt hrow ha.one hb.one ka kb rfl
      | some y =>
        rw [h2] at kb
        exact eval_op_some w _ m ad d ca cb x y hlt hrow ha.one hb.one ka kb (oka x h1) (okb y h2)
end Go.Proofs.Ytenkobgeflckdab
