/- The folds of aggregates. -/
import Derived.Test.YtfocjfnkcabbgaaGreatNum
import Derived.Deep.CutRange
set_option linter.unusedVariables false
set_option linter.unusedSimpArgs false
namespace Go.Proofs.YtfocjfnkcabbgaaGreat
open Go.RowKit Go.Shelf

set_option maxHeartbeats 4000000 in
set_option maxRecDepth 100000 in
theorem best_call (w : World) (bx : Nat) (sign : Int) (hs : sign = 1 ∨ sign = -1) (hc : w.cell? ⟨bx, 0, none⟩ = some (.int .i64 sign)) (so xv : Vl) (first : Bool) :
    Calls Tryz.prog 48 #[.agg #[.int .i64 so.k, .int .i64 so.i, .string so.t, .slice none 0 0], .agg #[.int .i64 xv.k, .int .i64 xv.i, .string xv.t, .slice none 0 0], .bool first, .pointer (some ⟨bx, 0, none⟩)] w fun e w' => e = .returned (vval (bestV sign so xv first)) ∧ New w w' := by
  obtain ⟨w1, hw1⟩ : ∃ w1, w1 = ((w.alloc (.cells #[.int .i64 so.k, .int .i64 so.i, .string so.t, .slice none 0 0] 40)).alloc (.cells #[.int .i64 xv.k, .int .i64 xv.i, .string xv.t, .slice none 0 0] 40)).alloc (.cells #[.int .i64 0, .int .i64 0, .string ⟨#[]⟩, .slice none 0 0] 40) := ⟨_, rfl⟩
  have hN1 : New w w1 := by rw [hw1]; exact (((Chg.refl _ _).alloc _).alloc _).alloc _
  have b0 : Blk w1 w.heap.size 40 #[.int .i64 so.k, .int .i64 so.i, .string so.t, .slice none 0 0] := by rw [hw1]; exact ((Blk.new w _ _).alloc _).alloc _
  have b1 : Blk w1 (w.heap.size + 1) 40 #[.int .i64 xv.k, .int .i64 xv.i, .string xv.t, .slice none 0 0] := by
    have := Blk.new (w.alloc (.cells #[.int .i64 so.k, .int .i64 so.i, .string so.t, .slice none 0 0] 40)) 40 #[.int .i64 xv.k, .int .i64 xv.i, .string xv.t, .slice none 0 0]
    simp only [World.size_alloc] at this
    rw [hw1]; exact this.alloc _
  have b2 : Blk w1 (w.heap.size + 1 + 1) 40 #[.int .i64 0, .int .i64 0, .string ⟨#[]⟩, .slice none 0 0] := by
    have := Blk.new ((w.alloc (.cells #[.int .i64 so.k, .int .i64 so.i, .string so.t, .slice none 0 0] 40)).alloc (.cells #[.int .i64 xv.k, .int .i64 xv.i, .string xv.t, .slice none 0 0] 40)) 40 #[.int .i64 0, .int .i64 0, .string ⟨#[]⟩, .slice none 0 0]
    simp only [World.size_alloc] at this
    rw [hw1]; exact this
  have hnd : New w1 w1.drew := (Chg.refl _ _).drew
  have B0 := Lib.hid (b0.chg hnd id)
  have B1 := Lib.hid (b1.chg hnd id)
  have B2 := Lib.hid (b2.chg hnd id)
  have HW1 := Lib.hid hw1
  have HNd := Lib.hid (hN1.trans hnd (fun _ _ x => x))
  have Hc := Lib.hid hc
  clear b0 b1 b2 hw1 hN1 hnd hc
  obtain ⟨c, hcv⟩ : ∃ c, cmpV xv so = c := ⟨_, rfl⟩
  have hcb := cmpV_bd xv so
  rw [hcv] at hcb
  have kw : IntKind.i64.wrap (c * sign) = c * sign := by rw [IntKind.wrap_i64]; rcases hs with rfl | rfl <;> omega
  obtain ⟨b, hb⟩ : ∃ b : Bool, decide (0 < c * sign) = b := ⟨_, rfl⟩
  have hbest : bestV sign so xv first = if first || b then xv else so := by unfold bestV; rw [hcv, hb]
  rw [hbest]
  have Hcv := Lib.hid hcv
  clear hbest hcv
  have eg1 := enters_of Tryz.func49 (by kernel_rfl) rfl
  unfold Enters at eg1
  go_enter Tryz.func48, Tryz.ntmps48
  go_upto_region 1 with fail
  rw [← HW1.out]
  refine wp_region_at (by kernel_rfl) ?_
  clear HW1
  generalize w1.drew = wd at B0 B1 B2 HNd ⊢
  cases first with
  | true =>
    refine AtN.segQ2 0 2 (fun
      | 0 => .bool true
      | _ => .bool true)
      [(8, .bool true), (9, .bool true)] (by kernel_rfl) (by kernel_rfl) (by kernel_rfl) (by kernel_rfl) rfl (fun i hn hi o ho A0 hin hk => ?_) ?_
    · rcases (show i = 0 ∨ i = 1 by omega) with rfl | rfl
      · cases ho
        exact exec_move 2 _ rfl (hk 2 (by kernel_rfl))
      · cases ho
        exact exec_move 8 _ rfl (hin 0 8 (by kernel_rfl))
    simp only [putsL, Act.put, List.setIfInBounds_toArray, List.set_cons_succ, List.set_cons_zero]
    refine AtN.segS2 2 8 [(10, undef), (11, undef), (12, undef), (13, undef), (14, undef), (15, undef)] (by kernel_rfl) (by kernel_rfl) (by kernel_rfl) (by kernel_rfl) rfl ?_
    simp only [putsL, Act.put, List.setIfInBounds_toArray, List.set_cons_succ, List.set_cons_zero]
    refine AtN.segQ2 8 9 (fun _ => .bool true)
      [(16, .bool true)] (by kernel_rfl) (by kernel_rfl) (by kernel_rfl) (by kernel_rfl) rfl (fun i hn hi o ho A0 hin hk => ?_) ?_
    · obtain rfl : i = 8 := by omega
      cases ho
      have h9 : A0.tmps[9]?.getD undef = .bool true := hk 9 (by kernel_rfl)
      have h15 : A0.tmps[15]?.getD undef = undef := hk 15 (by kernel_rfl)
      exact by simp [go_sem, h9, h15]
    simp only [putsL, Act.put, List.setIfInBounds_toArray, List.set_cons_succ, List.set_cons_zero]
    refine AtN.done rfl ?_
    have A1 := Lib.hid (show At wd ⟨w.heap.size + 1, 0, none⟩ [.int .i64 xv.k, .int .i64 xv.i, .string xv.t, .slice none 0 0] from (B1.out).at_)
    have B22 := Lib.hid (B2.out)
    have hst := (B22.out).set #[.int .i64 xv.k, .int .i64 xv.i, .string xv.t, .slice none 0 0]
    have Hst := Lib.hid (show At (wd.setRow (w.heap.size + 1 + 1) #[.int .i64 xv.k, .int .i64 xv.i, .string xv.t, .slice none 0 0]) ⟨w.heap.size + 1 + 1, 0, none⟩ [.int .i64 xv.k, .int .i64 xv.i, .string xv.t, .slice none 0 0] from (show Blk _ _ 40 ([.int .i64 xv.k, .int .i64 xv.i, .string xv.t, .slice none 0 0] : List Value).toArray from hst).at_)
    have HNf := Lib.hid ((HNd.out).setRow (w.heap.size + 1 + 1) #[.int .i64 xv.k, .int .i64 xv.i, .string xv.t, .slice none 0 0] (fun h => by omega))
    have hlay : layA #[.int .i64 0, .int .i64 0, .string ⟨#[]⟩, .slice none 0 0] 0 [.int .i64 xv.k, .int .i64 xv.i, .string xv.t, .slice none 0 0] = #[.int .i64 xv.k, .int .i64 xv.i, .string xv.t, .slice none 0 0] := rfl
    clear hst
    go_wp2_with (first | ((with_reducible refine wpl_load rfl (.tmp 5) 40 rfl stVal4 ⟨w.heap.size + 1, 0, none⟩ [.int .i64 xv.k, .int .i64 xv.i, .string xv.t, .slice none 0 0] ?_ rfl A1.out ?_); exact rfl) | ((with_reducible refine wpl_store rfl (.tmp 7) (.tmp 17) 40 rfl stVal4 (w.heap.size + 1 + 1) 0 40 #[.int .i64 0, .int .i64 0, .string ⟨#[]⟩, .slice none 0 0] [.int .i64 xv.k, .int .i64 xv.i, .string xv.t, .slice none 0 0] ?_ ?_ B22.out rfl (by decide) (vcs_one [xv] _ (by simp [vcs])) ?_); exact rfl; exact rfl))
    refine bodyPost_ret (v := vval xv) (res_cellK stVal4 rfl _ _ ⟨w.heap.size + 1 + 1, 0, none⟩ [.int .i64 xv.k, .int .i64 xv.i, .string xv.t, .slice none 0 0] rfl Hst.out rfl) rfl ⟨rfl, HNf.out⟩
  | false =>
    refine AtN.segQ2 0 2 (fun
      | 0 => .bool false
      | _ => .bool false)
      [(8, .bool false), (9, .bool false)] (by kernel_rfl) (by kernel_rfl) (by kernel_rfl) (by kernel_rfl) rfl (fun i hn hi o ho A0 hin hk => ?_) ?_
    · rcases (show i = 0 ∨ i = 1 by omega) with rfl | rfl
      · cases ho
        exact exec_move 2 _ rfl (hk 2 (by kernel_rfl))
      · cases ho
        exact exec_move 8 _ rfl (hin 0 8 (by kernel_rfl))
    simp only [putsL, Act.put, List.setIfInBounds_toArray, List.set_cons_succ, List.set_cons_zero]
    refine AtN.segN2 2 9 [10, 11, 12, 13, 14, 15, 16] (fun
      | 2 => fun v _ => v = .agg #[.int .i64 xv.k, .int .i64 xv.i, .string xv.t, .slice none 0 0]
      | 3 => fun v _ => v = .agg #[.int .i64 so.k, .int .i64 so.i, .string so.t, .slice none 0 0]
      | 4 => fun v _ => v = .int .i64 c
      | 5 => fun v _ => v = .int .i64 sign
      | 6 => fun v _ => v = .int .i64 (c * sign)
      | 7 => fun v _ => v = .bool b
      | 8 => fun v _ => v = .bool b
      | _ => fun _ _ => True) (by kernel_rfl) (by kernel_rfl) (by kernel_rfl) (by kernel_rfl) (fun j v w1 w2 hc h => ?_) (fun i hn hi o ho A0 W hN hin hk => ?_) (fun l W2 hN hl hΦ => ?_)
    · match j with
      | 2 | 3 | 4 | 5 | 6 | 7 | 8 => exact h
      | 0 | 1 => trivial
      | _ + 9 => trivial
    · rcases (show i = 2 ∨ i = 3 ∨ i = 4 ∨ i = 5 ∨ i = 6 ∨ i = 7 ∨ i = 8 by omega) with rfl | rfl | rfl | rfl | rfl | rfl | rfl
      · cases ho
        have h5 : A0.tmps[5]?.getD undef = .pointer (some ⟨w.heap.size + 1, 0, none⟩) := hk 5 (by kernel_rfl)
        exact .same (exec_load 5 _ rfl stVal4 ⟨w.heap.size + 1, 0, none⟩ [.int .i64 xv.k, .int .i64 xv.i, .string xv.t, .slice none 0 0] h5 rfl (B1.out.chg hN id).at_) rfl
      · cases ho
        have h4 : A0.tmps[4]?.getD undef = .pointer (some ⟨w.heap.size, 0, none⟩) := hk 4 (by kernel_rfl)
        exact .same (exec_load 4 _ rfl stVal4 ⟨w.heap.size, 0, none⟩ [.int .i64 so.k, .int .i64 so.i, .string so.t, .slice none 0 0] h4 rfl (B0.out.chg hN id).at_) rfl
      · cases ho
        have h10 : A0.tmps[10]?.getD undef = .agg #[.int .i64 xv.k, .int .i64 xv.i, .string xv.t, .slice none 0 0] := hin 2 10 (by kernel_rfl)
        have h11 : A0.tmps[11]?.getD undef = .agg #[.int .i64 so.k, .int .i64 so.i, .string so.t, .slice none 0 0] := hin 3 11 (by kernel_rfl)
        refine .call (f := 49) (args := #[.agg #[.int .i64 xv.k, .int .i64 xv.i, .string xv.t, .slice none 0 0], .agg #[.int .i64 so.k, .int .i64 so.i, .string so.t, .slice none 0 0]]) (W' := W) ?_ ((cmp_val xv so W).mono ?_)
        · simp [go_sem, h10, h11, eg1]
        · rintro e w' ⟨rfl, hc⟩
          exact ⟨_, rfl, hc, by rw [Hcv.out]; rfl⟩
      · cases ho
        have h3 : A0.tmps[3]?.getD undef = .pointer (some ⟨bx, 0, none⟩) := hk 3 (by kernel_rfl)
        have hcx := (HNd.out.trans hN (fun _ _ x => x)).cellS Hc.out id
        exact .same (by simp [go_sem, h3, hcx]) rfl
      · cases ho
        have h12 : A0.tmps[12]?.getD undef = .int .i64 c := hin 4 12 (by kernel_rfl)
        have h13 : A0.tmps[13]?.getD undef = .int .i64 sign := hin 5 13 (by kernel_rfl)
        exact .same (by simp [go_sem, h12, h13, kw]) rfl
      · cases ho
        have h14 : A0.tmps[14]?.getD undef = .int .i64 (c * sign) := hin 6 14 (by kernel_rfl)
        exact .same (by simp [go_sem, h14, hb]) rfl
      · cases ho
        have h9 : A0.tmps[9]?.getD undef = .bool false := hk 9 (by kernel_rfl)
        have h15 : A0.tmps[15]?.getD undef = .bool b := hin 7 15 (by kernel_rfl)
        exact .same (by simp [go_sem, h9, h15]) rfl
    obtain ⟨x10, x11, x12, x13, x14, x15, x16, rfl⟩ : ∃ x10 x11 x12 x13 x14 x15 x16, l = [x10, x11, x12, x13, x14, x15, x16] := by
      match l, hl with
      | [x10, x11, x12, x13, x14, x15, x16], _ => exact ⟨_, _, _, _, _, _, _, rfl⟩
    obtain rfl : x10 = .agg #[.int .i64 xv.k, .int .i64 xv.i, .string xv.t, .slice none 0 0] := hΦ 0 (by decide)
    obtain rfl : x11 = .agg #[.int .i64 so.k, .int .i64 so.i, .string so.t, .slice none 0 0] := hΦ 1 (by decide)
    obtain rfl : x12 = .int .i64 c := hΦ 2 (by decide)
    obtain rfl : x13 = .int .i64 sign := hΦ 3 (by decide)
    obtain rfl : x14 = .int .i64 (c * sign) := hΦ 4 (by decide)
    obtain rfl : x15 = .bool b := hΦ 5 (by decide)
    obtain rfl : x16 = .bool b := hΦ 6 (by decide)
    simp only [putsL, List.zip_cons_cons, List.zip_nil_left, List.zip_nil_right, List.zip, List.zipWith, Act.put, List.setIfInBounds_toArray, List.set_cons_succ, List.set_cons_zero]
    clear hΦ hl
    refine AtN.done rfl ?_
    have HN2 := Lib.hid (HNd.out.trans hN (fun _ _ x => x))
    have D0 := Lib.hid (B0.out.chg hN id)
    have D1 := Lib.hid (B1.out.chg hN id)
    have D2 := Lib.hid (B2.out.chg hN id)
    have hsz := HNd.out.size
    clear hN hb
    cases b with
    | true =>
      have A1 := Lib.hid (show At W2 ⟨w.heap.size + 1, 0, none⟩ [.int .i64 xv.k, .int .i64 xv.i, .string xv.t, .slice none 0 0] from (D1.out).at_)
      have B22 := Lib.hid (D2.out)
      have hst := (B22.out).set #[.int .i64 xv.k, .int .i64 xv.i, .string xv.t, .slice none 0 0]
      have Hst := Lib.hid (show At (W2.setRow (w.heap.size + 1 + 1) #[.int .i64 xv.k, .int .i64 xv.i, .string xv.t, .slice none 0 0]) ⟨w.heap.size + 1 + 1, 0, none⟩ [.int .i64 xv.k, .int .i64 xv.i, .string xv.t, .slice none 0 0] from (show Blk _ _ 40 ([.int .i64 xv.k, .int .i64 xv.i, .string xv.t, .slice none 0 0] : List Value).toArray from hst).at_)
      have HNf := Lib.hid ((HN2.out).setRow (w.heap.size + 1 + 1) #[.int .i64 xv.k, .int .i64 xv.i, .string xv.t, .slice none 0 0] (fun h => by omega))
      have hlay : layA #[.int .i64 0, .int .i64 0, .string ⟨#[]⟩, .slice none 0 0] 0 [.int .i64 xv.k, .int .i64 xv.i, .string xv.t, .slice none 0 0] = #[.int .i64 xv.k, .int .i64 xv.i, .string xv.t, .slice none 0 0] := rfl
      clear hst
      go_wp2_with (first | ((with_reducible refine wpl_load rfl (.tmp 5) 40 rfl stVal4 ⟨w.heap.size + 1, 0, none⟩ [.int .i64 xv.k, .int .i64 xv.i, .string xv.t, .slice none 0 0] ?_ rfl A1.out ?_); exact rfl) | ((with_reducible refine wpl_store rfl (.tmp 7) (.tmp 17) 40 rfl stVal4 (w.heap.size + 1 + 1) 0 40 #[.int .i64 0, .int .i64 0, .string ⟨#[]⟩, .slice none 0 0] [.int .i64 xv.k, .int .i64 xv.i, .string xv.t, .slice none 0 0] ?_ ?_ B22.out rfl (by decide) (vcs_one [xv] _ (by simp [vcs])) ?_); exact rfl; exact rfl))
      refine bodyPost_ret (v := vval xv) (res_cellK stVal4 rfl _ _ ⟨w.heap.size + 1 + 1, 0, none⟩ [.int .i64 xv.k, .int .i64 xv.i, .string xv.t, .slice none 0 0] rfl Hst.out rfl) rfl ⟨rfl, HNf.out⟩
    | false =>
      have A1 := Lib.hid (show At W2 ⟨w.heap.size, 0, none⟩ [.int .i64 so.k, .int .i64 so.i, .string so.t, .slice none 0 0] from (D0.out).at_)
      have B22 := Lib.hid (D2.out)
      have hst := (B22.out).set #[.int .i64 so.k, .int .i64 so.i, .string so.t, .slice none 0 0]
      have Hst := Lib.hid (show At (W2.setRow (w.heap.size + 1 + 1) #[.int .i64 so.k, .int .i64 so.i, .string so.t, .slice none 0 0]) ⟨w.heap.size + 1 + 1, 0, none⟩ [.int .i64 so.k, .int .i64 so.i, .string so.t, .slice none 0 0] from (show Blk _ _ 40 ([.int .i64 so.k, .int .i64 so.i, .string so.t, .slice none 0 0] : List Value).toArray from hst).at_)
      have HNf := Lib.hid ((HN2.out).setRow (w.heap.size + 1 + 1) #[.int .i64 so.k, .int .i64 so.i, .string so.t, .slice none 0 0] (fun h => by omega))
      have hlay : layA #[.int .i64 0, .int .i64 0, .string ⟨#[]⟩, .slice none 0 0] 0 [.int .i64 so.k, .int .i64 so.i, .string so.t, .slice none 0 0] = #[.int .i64 so.k, .int .i64 so.i, .string so.t, .slice none 0 0] := rfl
      clear hst
      go_wp2_with (first | ((with_reducible refine wpl_load rfl (.tmp 4) 40 rfl stVal4 ⟨w.heap.size, 0, none⟩ [.int .i64 so.k, .int .i64 so.i, .string so.t, .slice none 0 0] ?_ rfl A1.out ?_); exact rfl) | ((with_reducible refine wpl_store rfl (.tmp 7) (.tmp 18) 40 rfl stVal4 (w.heap.size + 1 + 1) 0 40 #[.int .i64 0, .int .i64 0, .string ⟨#[]⟩, .slice none 0 0] [.int .i64 so.k, .int .i64 so.i, .string so.t, .slice none 0 0] ?_ ?_ B22.out rfl (by decide) (vcs_one [so] _ (by simp [vcs])) ?_); exact rfl; exact rfl))
      refine bodyPost_ret (v := vval so) (res_cellK stVal4 rfl _ _ ⟨w.heap.size + 1 + 1, 0, none⟩ [.int .i64 so.k, .int .i64 so.i, .string so.t, .slice none 0 0] rfl Hst.out rfl) rfl ⟨rfl, HNf.out⟩
end Go.Proofs.YtfocjfnkcabbgaaGreat
