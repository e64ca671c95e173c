/- group.back. -/
import Derived.Test.YtfocjfnkcabbgaaGreatAhead
set_option linter.unusedVariables false
set_option linter.unusedSimpArgs false
namespace Go.Proofs.YtfocjfnkcabbgaaGreat
open Go.RowKit Go.Shelf

set_option maxHeartbeats 4000000 in
set_option maxRecDepth 100000 in
theorem back_row (w : World) (xc : List Value) (r : Rw) (hx : RowAt w xc r) (us : List Vl) (x : Vl) (hr : r.args = us ++ [x]) (k : Nat) (hk : k ≤ us.length) :
    Calls Tryz.prog 30 #[.agg xc.toArray, .int .i64 k] w (AheadPost w ⟨r.name, us.take k ++ x :: us.drop k, r.stamp⟩) := by
  obtain ⟨l0, hl0⟩ : ∃ l, us.length = l := ⟨_, rfl⟩
  have hla : r.args.length = l0 + 1 := by rw [hr, List.length_append, hl0]; rfl
  have hgx : r.args[l0]? = some x := by rw [hr, ← hl0, List.getElem?_append_right (Nat.le_refl _), Nat.sub_self]; rfl
  obtain ⟨X, c, rfl, hl1000, hlc, hcm, hsrc, hXl⟩ := hx
  obtain ⟨ax, hax, hrows⟩ := hsrc (by rw [List.length_map]; omega)
  subst hax
  rw [hla] at hl1000 hlc ⊢
  rw [hl0] at hk
  have hat := (hrows l0 (vcs x) (by rw [List.getElem?_map, hgx]; rfl)).2
  change At _ _ [.int .i64 x.k, .int .i64 x.i, .string x.t, .slice none 0 0] at hat
  have hsu : SrcAt w (some ax) 4 (us.map vcs) := by
    have := hsrc.take l0
    rw [hr, List.map_append, List.take_left' (by rw [List.length_map, hl0])] at this
    exact this
  obtain ⟨w1, hw1⟩ : ∃ w1, w1 = (w.alloc (.cells #[.string r.name, .slice (some ax) (l0 + 1) c, .int .i64 r.stamp] 44)).alloc (.cells #[.string ⟨#[]⟩, .slice none 0 0, .int .i64 0] 44) := ⟨_, rfl⟩
  have hN1 : New w w1 := by rw [hw1]; exact ((Chg.refl _ _).alloc _).alloc _
  have b0 : Blk w1 w.heap.size 44 #[.string r.name, .slice (some ax) (l0 + 1) c, .int .i64 r.stamp] := by rw [hw1]; exact (Blk.new w _ _).alloc _
  have b1 : Blk w1 (w.heap.size + 1) 44 #[.string ⟨#[]⟩, .slice none 0 0, .int .i64 0] := by
    have := Blk.new (w.alloc (.cells #[.string r.name, .slice (some ax) (l0 + 1) c, .int .i64 r.stamp] 44)) 44 #[.string ⟨#[]⟩, .slice none 0 0, .int .i64 0]
    simp only [World.size_alloc] at this
    rw [hw1]; exact this
  have hnd : New w1 w1.drew := (Chg.refl _ _).drew
  have hND := hN1.trans hnd (fun _ _ x => x)
  have B0 := Lib.hid (b0.chg hnd id)
  have B1 := Lib.hid (b1.chg hnd id)
  have HND := Lib.hid hND
  have HSd := Lib.hid (hsu.chg hND (fun _ _ x => x))
  have Hat := Lib.hid (hat.chg hND id)
  have HW1 := Lib.hid hw1
  have Hl0 := Lib.hid hl0
  have hXl' := hXl ax rfl
  clear b0 b1 hnd hN1 hND hw1 hat hsrc hsu hrows hXl hla hgx hl0 hr
  go_enter Tryz.func30, Tryz.ntmps30
  go_upto_region 2 with fail
  rw [← HW1.out]
  refine wp_region_at (by kernel_rfl) ?_
  clear HW1
  generalize w1.drew = wd at B0 B1 HND HSd Hat ⊢
  have hsz := HND.out.size
  have eg1 := enters_of Tryz.func52 (by kernel_rfl) rfl
  have eg2 := enters_of Tryz.func56 (by kernel_rfl) rfl
  unfold Enters at eg1 eg2
  have q0 : (0 : Int) ≤ (l0 : Int) := by omega
  have q1 : (l0 : Int) ≤ (c : Int) := by omega
  have q2 : (l0 : Int) < ((l0 + 1 : Nat) : Int) := by omega
  have q3 : l0 ≤ c := by omega
  have q4 : l0 < l0 + 1 := by omega
  have q5 : (l0 : Int) < (l0 : Int) + 1 := by omega
  refine AtN.segF 0 14 0 [10, 11, 12, 13, 14, 15, 16, 17, 18, 19, 20, 21, 22, 23] (fun _ => False) (fun
      | 4 => true
      | 11 => true
      | 12 => true
      | _ => false) (fun
      | 4 => 12
      | 11 => 12
      | _ => 999) (fun
      | 0 => fun v _ => v = .pointer (some ⟨w.heap.size, 1, none⟩)
      | 1 => fun v _ => v = .slice (some ax) (l0 + 1) c
      | 2 => fun v _ => v = .int .i64 l0
      | 3 => fun v _ => v = .slice (some ax) l0 c
      | 4 => fun u W => Own W w.heap.size 40 4 u ((us).map vcs)
      | 5 => fun v _ => v = .int .i64 k
      | 6 => fun v _ => v = .pointer (some ⟨w.heap.size, 1, none⟩)
      | 7 => fun v _ => v = .slice (some ax) (l0 + 1) c
      | 8 => fun v _ => v = .int .i64 l0
      | 9 => fun v _ => v = .pointer (some (ax.add (l0 * 4)))
      | 10 => fun v _ => v = .agg #[.int .i64 x.k, .int .i64 x.i, .string x.t, .slice none 0 0]
      | 11 => fun u W => ∃ rb, u = .slice (some ⟨rb, 0, none⟩) 1 1 ∧ Blk W rb 40 #[.int .i64 x.k, .int .i64 x.i, .string x.t, .slice none 0 0]
      | 12 => fun u W => Own W w.heap.size 40 4 u ((us.take k ++ x :: us.drop k).map vcs)
      | 13 => fun v _ => v = .pointer (some ⟨w.heap.size, 1, none⟩)
      | _ => fun _ _ => True : Nat → Value → World → Prop) (by kernel_rfl) (by kernel_rfl) (by kernel_rfl) (by kernel_rfl) (by kernel_rfl) (fun g hg => hg.elim) (fun k u W1 W2 T' h hc ht hT => ?_) (fun i hn hi o ho A0 W b hJ hμ hin hkp hcn => ?_) (fun l W3 hN hl hΦ hap => ?_)
  · match k with
    | 4 => exact h.chg hc (fun g hg => ht rfl g (fpv_own hg))
    | 11 => exact h.imp fun rb h => ⟨h.1, h.2.chg hc (ht rfl rb (by rw [h.1]; rfl))⟩
    | 12 => exact h.chg hc (fun g hg => ht rfl g (fpv_own hg))
    | 0 | 1 | 2 | 3 | 5 | 6 | 7 | 8 | 9 | 10 | 13 => exact h
    | _ + 14 => trivial
  · rcases (show i = 0 ∨ i = 1 ∨ i = 2 ∨ i = 3 ∨ i = 4 ∨ i = 5 ∨ i = 6 ∨ i = 7 ∨ i = 8 ∨ i = 9 ∨ i = 10 ∨ i = 11 ∨ i = 12 ∨ i = 13 by omega) with rfl | rfl | rfl | rfl | rfl | rfl | rfl | rfl | rfl | rfl | rfl | rfl | rfl | rfl
    · cases ho
      have h2 : A0.tmps[2]?.getD undef = .pointer (some ⟨w.heap.size, 0, none⟩) := hkp 2 (by kernel_rfl)
      refine .new rfl ?_
      exact .same (v := .pointer (some ⟨w.heap.size, 1, none⟩)) (by simp [go_sem, h2]) rfl
    · cases ho
      have h10 : A0.tmps[10]?.getD undef = .pointer (some ⟨w.heap.size, 1, none⟩) := hin 0 10 (by kernel_rfl)
      refine .new rfl ?_
      have hcx : W.cell? ⟨w.heap.size, 1, none⟩ = some (.slice (some ax) (l0 + 1) c) := (B0.out.chg hJ.1 id).cell 1
      exact .same (v := .slice (some ax) (l0 + 1) c) (by simp [go_sem, h10, hcx]) rfl
    · cases ho
      refine .new rfl ?_
      exact .same (exec_move 5 (.int .i64 l0) rfl (hkp 5 (by kernel_rfl))) rfl
    · cases ho
      have h11 : A0.tmps[11]?.getD undef = .slice (some ax) (l0 + 1) c := hin 1 11 (by kernel_rfl)
      have h12 : A0.tmps[12]?.getD undef = .int .i64 l0 := hin 2 12 (by kernel_rfl)
      refine .new rfl ?_
      exact .same (v := .slice (some ax) l0 c) (by simp [go_sem, h11, h12, q0, q1, q2, q3, q4, q5]) rfl
    · cases ho
      have h13 : A0.tmps[13]?.getD undef = .slice (some ax) l0 c := hin 3 13 (by kernel_rfl)
      refine .make (.call (f := 52) (args := #[.slice (some ax) l0 c]) (W' := W) ?_ ((cloneValue W (some ax) l0 c (us.map vcs) (by rw [List.length_map]; exact Hl0.out.symm) (HSd.out.chg hJ.1 (fun _ _ x => x)) (fun a ha => by
        cases ha
        have := hJ.1.size
        omega) (vcs_one _) (by omega)).mono ?_))
      · simp [go_sem, h13, eg1]
      · rintro e w' ⟨v', rfl, hov, hc⟩
        exact ⟨v', rfl, hc, hov.base (Nat.le_trans hsz hJ.1.size), fun g hg => by
          rw [hov.fpv] at hg
          exact hov.lt hg⟩
    · cases ho
      refine .new rfl ?_
      exact .same (exec_move 1 (.int .i64 k) rfl (hkp 1 (by kernel_rfl))) rfl
    · cases ho
      have h2 : A0.tmps[2]?.getD undef = .pointer (some ⟨w.heap.size, 0, none⟩) := hkp 2 (by kernel_rfl)
      refine .new rfl ?_
      exact .same (v := .pointer (some ⟨w.heap.size, 1, none⟩)) (by simp [go_sem, h2]) rfl
    · cases ho
      have h16 : A0.tmps[16]?.getD undef = .pointer (some ⟨w.heap.size, 1, none⟩) := hin 6 16 (by kernel_rfl)
      refine .new rfl ?_
      have hcx : W.cell? ⟨w.heap.size, 1, none⟩ = some (.slice (some ax) (l0 + 1) c) := (B0.out.chg hJ.1 id).cell 1
      exact .same (v := .slice (some ax) (l0 + 1) c) (by simp [go_sem, h16, hcx]) rfl
    · cases ho
      refine .new rfl ?_
      exact .same (exec_move 5 (.int .i64 l0) rfl (hkp 5 (by kernel_rfl))) rfl
    · cases ho
      have h17 : A0.tmps[17]?.getD undef = .slice (some ax) (l0 + 1) c := hin 7 17 (by kernel_rfl)
      have h18 : A0.tmps[18]?.getD undef = .int .i64 l0 := hin 8 18 (by kernel_rfl)
      refine .new rfl ?_
      exact .same (v := .pointer (some (ax.add (l0 * 4)))) (by simp [go_sem, h17, h18, q0, q1, q2, q3, q4, q5]) rfl
    · cases ho
      have h19 : A0.tmps[19]?.getD undef = .pointer (some (ax.add (l0 * 4))) := hin 9 19 (by kernel_rfl)
      refine .new rfl ?_
      exact .same (exec_load 19 _ rfl stVal4 (ax.add (l0 * 4)) [.int .i64 x.k, .int .i64 x.i, .string x.t, .slice none 0 0] h19 rfl (Hat.out.chg hJ.1 id)) rfl
    · cases ho
      have h20 : A0.tmps[20]?.getD undef = .agg #[.int .i64 x.k, .int .i64 x.i, .string x.t, .slice none 0 0] := hin 10 20 (by kernel_rfl)
      exact .make (.value (W' := W.alloc (.cells #[.int .i64 x.k, .int .i64 x.i, .string x.t, .slice none 0 0] 40)) (v := .slice (some ⟨W.heap.size, 0, none⟩) 1 1) (by simp [go_sem, h20]) ⟨(Chg.refl _ _).alloc _, ⟨_, rfl, Blk.new _ _ _⟩, fun g hg => by cases hg; exact ⟨Nat.le_refl _, by simp⟩⟩)
    · cases ho
      have h14 : (fun u W => Own W w.heap.size 40 4 u ((us).map vcs) : Value → World → Prop) (A0.tmps[14]?.getD undef) W := hin 4 14 (by kernel_rfl)
      have h15 : A0.tmps[15]?.getD undef = .int .i64 k := hin 5 15 (by kernel_rfl)
      have h21 : (fun u W => ∃ rb, u = .slice (some ⟨rb, 0, none⟩) 1 1 ∧ Blk W rb 40 #[.int .i64 x.k, .int .i64 x.i, .string x.t, .slice none 0 0] : Value → World → Prop) (A0.tmps[21]?.getD undef) W := hin 11 21 (by kernel_rfl)
      obtain ⟨ro, eo, hb8⟩ := h21
      have hdis : (A0.tmps[14]?.getD undef).ownBlock ≠ some ro := by
        intro he
        exact hcn 4 14 11 21 ro (by kernel_rfl) (by kernel_rfl) (by decide) (fpv_own he) (by rw [eo]; rfl)
      refine GivesF.call 56 #[A0.tmps[14]?.getD undef, .int .i64 k, .slice (some ⟨ro, 0, none⟩) 1 1] ?_ ((ins_own h14 k (by rw [Hl0.out]; exact hk) (by rw [Hl0.out]; omega) (Nat.le_trans hsz hJ.1.size) x ro 1 hb8 hdis).mono ?_)
      · simp [go_sem, h15, eo, eg2]
      · rintro e w' ⟨v', rfl, hov, hc, hob⟩
        refine ⟨v', rfl, hov, _, hc, fun g _ hg => .inl ⟨4, 14, by kernel_rfl, fpv_own hg⟩, fun _ g hg => ?_⟩
        rw [hov.fpv] at hg
        exact ⟨(hov.lt hg).2, (hob g hg).elim (fun h => .inl ⟨4, 14, by kernel_rfl, fpv_own h⟩) (fun h => .inr (.inl h))⟩
    · cases ho
      have h2 : A0.tmps[2]?.getD undef = .pointer (some ⟨w.heap.size, 0, none⟩) := hkp 2 (by kernel_rfl)
      refine .new rfl ?_
      exact .same (v := .pointer (some ⟨w.heap.size, 1, none⟩)) (by simp [go_sem, h2]) rfl
  obtain ⟨x10, x11, x12, x13, x14, x15, x16, x17, x18, x19, x20, x21, x22, x23, rfl⟩ : ∃ x10 x11 x12 x13 x14 x15 x16 x17 x18 x19 x20 x21 x22 x23, l = [x10, x11, x12, x13, x14, x15, x16, x17, x18, x19, x20, x21, x22, x23] := by
    match l, hl with
    | [x10, x11, x12, x13, x14, x15, x16, x17, x18, x19, x20, x21, x22, x23], _ => exact ⟨_, _, _, _, _, _, _, _, _, _, _, _, _, _, rfl⟩
  obtain rfl : x10 = .pointer (some ⟨w.heap.size, 1, none⟩) := hΦ 0 (by decide) (by decide)
  obtain rfl : x11 = .slice (some ax) (l0 + 1) c := hΦ 1 (by decide) (by decide)
  obtain rfl : x12 = .int .i64 l0 := hΦ 2 (by decide) (by decide)
  obtain rfl : x13 = .slice (some ax) l0 c := hΦ 3 (by decide) (by decide)
  obtain rfl : x15 = .int .i64 k := hΦ 5 (by decide) (by decide)
  obtain rfl : x16 = .pointer (some ⟨w.heap.size, 1, none⟩) := hΦ 6 (by decide) (by decide)
  obtain rfl : x17 = .slice (some ax) (l0 + 1) c := hΦ 7 (by decide) (by decide)
  obtain rfl : x18 = .int .i64 l0 := hΦ 8 (by decide) (by decide)
  obtain rfl : x19 = .pointer (some (ax.add (l0 * 4))) := hΦ 9 (by decide) (by decide)
  obtain rfl : x20 = .agg #[.int .i64 x.k, .int .i64 x.i, .string x.t, .slice none 0 0] := hΦ 10 (by decide) (by decide)
  have hx22 : (fun u W => Own W w.heap.size 40 4 u ((us.take k ++ x :: us.drop k).map vcs) : Value → World → Prop) x22 W3 := hΦ 12 (by decide) (by decide)
  obtain rfl : x23 = .pointer (some ⟨w.heap.size, 1, none⟩) := hΦ 13 (by decide) (by decide)
  simp only [putsL, List.zip_cons_cons, List.zip_nil_left, List.zip_nil_right, List.zip, List.zipWith, Act.put, List.setIfInBounds_toArray, List.set_cons_succ, List.set_cons_zero]
  clear hΦ hl
  obtain ⟨An, cn, hvn, _, _⟩ := hx22.form
  obtain ⟨nn, hnn⟩ : ∃ n, (List.map vcs (us.take k ++ x :: us.drop k)).length = n := ⟨_, rfl⟩
  rw [hnn] at hvn
  clear hnn
  have hb0 := B0.out.chg hN id
  have hb1 := B1.out.chg hN id
  have hNn : New w W3 := HND.out.trans hN (fun _ _ x => x)
  have c1 := hb0.cell 1
  have f1 := hb0.frozen 1
  simp only [List.getElem?_toArray, List.getElem?_cons_zero, List.getElem?_cons_succ] at c1
  have hb0' : Blk (W3.setCell ⟨w.heap.size, 1, none⟩ x22) w.heap.size 44 #[.string r.name, x22, .int .i64 r.stamp] := by simpa using hb0.setCell 1 x22
  have hne : ∀ g, x22.ownBlock = some g → g ≠ w.heap.size := fun g hg e => own_ne_blk hx22 hb0 (by decide) (by rw [hg, e])
  have hne1 : ∀ g, x22.ownBlock = some g → g ≠ w.heap.size + 1 := fun g hg e => own_ne_blk hx22 hb1 (by decide) (by rw [hg, e])
  have hb1' : Blk (W3.setCell ⟨w.heap.size, 1, none⟩ x22) (w.heap.size + 1) 44 #[.string ⟨#[]⟩, .slice none 0 0, .int .i64 0] := hb1.far (p := ⟨w.heap.size, 1, none⟩) (by simp) x22
  have hov' : Own (W3.setCell ⟨w.heap.size, 1, none⟩ x22) w.heap.size 40 4 x22 ((us.take k ++ x :: us.drop k).map vcs) := hx22.chg (T := fun k => k = w.heap.size) ((Chg.refl _ _).setCell _ _ (fun _ => rfl)) (fun g hg e => hne g hg e)
  have hN' : New w (W3.setCell ⟨w.heap.size, 1, none⟩ x22) := hNn.setCell ⟨w.heap.size, 1, none⟩ x22 (fun h => absurd h (by simp))
  subst hvn
  have Hat0 := Lib.hid (show At (W3.setCell ⟨w.heap.size, 1, none⟩ (.slice An nn cn)) ⟨w.heap.size, 0, none⟩ [.string r.name, .slice An nn cn, .int .i64 r.stamp] from hb0'.at_)
  have HB1 := Lib.hid hb1'
  have HOv := Lib.hid (hov'.chg (T := fun k => k = w.heap.size + 1) ((Chg.refl _ _).setRow (w.heap.size + 1) #[.string r.name, .slice An nn cn, .int .i64 r.stamp] (fun _ => rfl)) (fun g hg e => hne1 g hg e))
  have HNf := Lib.hid (hN'.setRow (w.heap.size + 1) #[.string r.name, .slice An nn cn, .int .i64 r.stamp] (fun h => by omega))
  have Hst := Lib.hid (show At ((W3.setCell ⟨w.heap.size, 1, none⟩ (.slice An nn cn)).setRow (w.heap.size + 1) #[.string r.name, .slice An nn cn, .int .i64 r.stamp]) ⟨w.heap.size + 1, 0, none⟩ [.string r.name, .slice An nn cn, .int .i64 r.stamp] from (show Blk _ _ 44 ([.string r.name, .slice An nn cn, .int .i64 r.stamp] : List Value).toArray from hb1'.set _).at_)
  have hlay : layA #[.string ⟨#[]⟩, .slice none 0 0, .int .i64 0] 0 [.string r.name, .slice An nn cn, .int .i64 r.stamp] = #[.string r.name, .slice An nn cn, .int .i64 r.stamp] := rfl
  have Hone := Lib.hid (show ∀ u ∈ [Value.string r.name, .slice An nn cn, .int .i64 r.stamp], u.oneCell' = true from fun u hu => by
    simp only [List.mem_cons, List.not_mem_nil, or_false] at hu
    rcases hu with rfl | rfl | rfl <;> rfl)
  clear hx22 hb0 hb1 hb0' hb1' hov' hN' hne hne1 hNn hN B0 B1 HND HSd Hat hap
  refine AtN.list 14 15 (by kernel_rfl) ?_
  change wpList _ _ _ [_] _ _
  go_wp2_with fail
  change AtN _ _ _ 15 _ _
  refine AtN.done rfl ?_
  go_wp2_with (first | ((with_reducible refine wpl_load rfl (.tmp 2) 44 rfl stRow ⟨w.heap.size, 0, none⟩ [.string r.name, .slice An nn cn, .int .i64 r.stamp] ?_ rfl Hat0.out ?_); exact rfl) | ((with_reducible refine wpl_store rfl (.tmp 4) (.tmp 24) 44 rfl stRow (w.heap.size + 1) 0 44 #[.string ⟨#[]⟩, .slice none 0 0, .int .i64 0] [.string r.name, .slice An nn cn, .int .i64 r.stamp] ?_ ?_ HB1.out rfl (by decide) Hone.out ?_); exact rfl; exact rfl))
  refine bodyPost_ret (v := .agg #[.string r.name, .slice An nn cn, .int .i64 r.stamp]) (res_cellK stRow rfl _ _ ⟨w.heap.size + 1, 0, none⟩ [.string r.name, .slice An nn cn, .int .i64 r.stamp] rfl Hst.out rfl) rfl ⟨_, rfl, HOv.out, HNf.out⟩
end Go.Proofs.YtfocjfnkcabbgaaGreat
