/- Layer 11's example, and its words. -/
import Derived.Test.YtfocjfnkcabbgaaGreatGrp2
import Derived.Test.YtfocjfnkcabbgaaGreatPk11
set_option linter.unusedVariables false
set_option linter.unusedSimpArgs false
namespace Go.Proofs.YtfocjfnkcabbgaaGreat
open Go.RowKit Go.Shelf

def AggsPost (w : World) (e : Ending) (w' : World) : Prop := ∃ b, e = .returned (.slice (some ⟨b, 0, none⟩) 3 3) ∧ Blk w' b 9 #[.string (agName .min), .string (agName .max), .string (agName .count)] ∧ New w w'
set_option maxHeartbeats 1000000 in
theorem aggs_any (w : World) : Calls Tryz.prog 10 #[] w (AggsPost w) := by
  have hB : Blk (w.alloc (.cells #[.string ⟨#[109, 105, 110]⟩, .string ⟨#[109, 97, 120]⟩, .string ⟨#[99, 111, 117, 110, 116]⟩] 9)) w.heap.size 9 #[.string ⟨#[109, 105, 110]⟩, .string ⟨#[109, 97, 120]⟩, .string ⟨#[99, 111, 117, 110, 116]⟩] := Blk.new w _ _
  have HB := Lib.hid hB
  clear hB
  go_enter Tryz.func10, Tryz.ntmps10
  go_wp2_with fail
  go_ret
  exact ⟨_, rfl, HB.out, (Chg.refl _ _).alloc _⟩

set_option maxHeartbeats 1000000 in
set_option maxRecDepth 100000 in
theorem group_sum (w : World) (k : Nat) (v : Value) : Calls Tryz.prog 12 #[.string ⟨#[115, 117, 109]⟩, .int .i64 k, v] w fun e w' => e = .returned (.slice none 0 0) ∧ w = w' := by
  have hnf : ∀ w, (binOp BinOp.eql 72 .nilFunc .nilFunc).run Tryz.prog w = .ok (.bool true) w := fun _ => by kernel_rfl
  have HF := Lib.hid (folds_sum w)
  go_enter Tryz.func12, Tryz.ntmps12
  go_wp2_with fail
  refine HF.out.mono ?_
  rintro e w1 ⟨rfl, rfl⟩
  go_wp2_with fail
  go_ret
  exact ⟨rfl, rfl⟩

def aV : Vl := ⟨3, 0, ⟨#[97]⟩⟩
def nV (n : Int) : Vl := ⟨1, n, ⟨#[]⟩⟩
def rw11 (n st : Int) : Rw := ⟨⟨#[112]⟩, [aV, nV n], st⟩
theorem can_rw11 (n st : Int) : canonR (rw11 n st) := fun u hu => by
  simp only [rw11, List.mem_cons, List.not_mem_nil, or_false] at hu
  rcases hu with rfl | rfl
  · exact .inl ⟨rfl, rfl⟩
  · exact .inr ⟨rfl, rfl⟩
theorem ex11 {m res : List Rw} (ag : Ag) (o : Rw) (hg : grp ag [rw11 3 4, rw11 5 2] = [o]) (ho : canonR o) (hb : bck 1 o = o) (hm : IsMerge (trn 1 [rw11 3 4, rw11 5 2]) m) (hr : IsMerge ((grp ag m).map (bck 1)) res) : res = [o] := by
  have ht : trn 1 [rw11 3 4, rw11 5 2] = [rw11 3 4, rw11 5 2] := by decide +kernel
  rw [ht] at hm
  obtain rfl := merge_uniq (by simp; exact ⟨can_rw11 _ _, can_rw11 _ _⟩) hm (merge_self (by decide +kernel))
  rw [hg, List.map_cons, List.map_nil, hb] at hr
  exact merge_uniq (by simp; exact ho) hr (merge_self (List.pairwise_singleton _ _))
set_option maxHeartbeats 4000000 in
set_option maxRecDepth 100000 in
theorem awake11 (w : World) : Calls Tryz.prog 4 #[] w fun e w' => e = .returned (.bool true) ∧ New w w' := by
  have HA := Lib.hid (addr_any w ⟨#[97]⟩)
  go_enter Tryz.func4, Tryz.ntmps4
  go_wp2_with fail
  refine HA.out.mono ?_
  rintro e w1 ⟨rfl, hN1⟩
  obtain ⟨w2, hw2⟩ : ∃ w2, w2 = w1.alloc (.cells #[.int .i64 3, .int .i64 0, .string ⟨#[97]⟩, .slice none 0 0] 40) := ⟨_, rfl⟩
  have hN2 : New w1 w2 := by rw [hw2]; exact (Chg.refl _ _).alloc _
  have hB2 : Blk w2 w1.heap.size 40 #[.int .i64 3, .int .i64 0, .string ⟨#[97]⟩, .slice none 0 0] := by rw [hw2]; exact Blk.new w1 _ _
  have hN12 := hN1.trans hN2 (fun _ _ x => x)
  have HW2 := Lib.hid hw2
  have HN2 := Lib.hid hN12.drew
  have HB2 := Lib.hid (hB2.chg ((Chg.refl w2 (fun _ => False)).drew) id)
  have eg1 := enters_of Tryz.func14 (by kernel_rfl) rfl
  have eg2 := enters_of Tryz.func8 (by kernel_rfl) rfl
  have eg3 := enters_of Tryz.func12 (by kernel_rfl) rfl
  unfold Enters at eg1 eg2 eg3
  clear hN1 hN2 hB2 hN12 hw2 HA
  go_upto_region 2 with fail
  rw [← HW2.out]
  refine wp_region_at (by kernel_rfl) ?_
  clear HW2
  generalize w2.drew = wd at HN2 HB2 ⊢
  generalize w1.heap.size = ba at HB2 ⊢
  refine AtN.segN2 0 10 [6, 7, 8, 9, 10, 11, 12, 13, 14, 2] (fun
    | 0 => fun v _ => v = .agg #[.int .i64 3, .int .i64 0, .string ⟨#[97]⟩, .slice none 0 0]
    | 1 => fun v _ => v = .agg #[.int .i64 1, .int .i64 3, .string ⟨#[]⟩, .slice none 0 0]
    | 2 => fun v W => ∃ b, v = .slice (some ⟨b, 0, none⟩) 2 2 ∧ Blk W b 40 (vcs aV ++ vcs (nV 3)).toArray
    | 3 => fun v W => ∃ b, v = .agg #[.string ⟨#[112]⟩, .slice (some ⟨b, 0, none⟩) 2 2, .int .i64 4] ∧ Blk W b 40 (vcs aV ++ vcs (nV 3)).toArray
    | 4 => fun v _ => v = .agg #[.int .i64 3, .int .i64 0, .string ⟨#[97]⟩, .slice none 0 0]
    | 5 => fun v _ => v = .agg #[.int .i64 1, .int .i64 5, .string ⟨#[]⟩, .slice none 0 0]
    | 6 => fun v W => ∃ b, v = .slice (some ⟨b, 0, none⟩) 2 2 ∧ Blk W b 40 (vcs aV ++ vcs (nV 5)).toArray
    | 7 => fun v W => ∃ b, v = .agg #[.string ⟨#[112]⟩, .slice (some ⟨b, 0, none⟩) 2 2, .int .i64 2] ∧ Blk W b 40 (vcs aV ++ vcs (nV 5)).toArray
    | 8 => fun v W => RowSl W v [rw11 3 4, rw11 5 2]
    | 9 => fun v W => RowSl W v [rw11 3 4, rw11 5 2]
    | _ => fun _ _ => True) (by kernel_rfl) (by kernel_rfl) (by kernel_rfl) (by kernel_rfl) (fun j v w1 w2 hc h => ?_) (fun i hn hi o ho A0 W hN hin hk => ?_) (fun l W3 hN hl hΦ => ?_)
  · match j with
    | 2 => exact h.imp fun b h => ⟨h.1, h.2.chg hc id⟩
    | 3 => exact h.imp fun b h => ⟨h.1, h.2.chg hc id⟩
    | 6 => exact h.imp fun b h => ⟨h.1, h.2.chg hc id⟩
    | 7 => exact h.imp fun b h => ⟨h.1, h.2.chg hc id⟩
    | 8 => exact h.chg hc
    | 9 => exact h.chg hc
    | 0 | 1 | 4 | 5 => exact h
    | _ + 10 => trivial
  · rcases (show i = 0 ∨ i = 1 ∨ i = 2 ∨ i = 3 ∨ i = 4 ∨ i = 5 ∨ i = 6 ∨ i = 7 ∨ i = 8 ∨ i = 9 by omega) with rfl | rfl | rfl | rfl | rfl | rfl | rfl | rfl | rfl | rfl
    · cases ho
      have h1 : A0.tmps[1]?.getD undef = .pointer (some ⟨ba, 0, none⟩) := hk 1 (by kernel_rfl)
      exact .same (exec_load 1 _ rfl stVal4 ⟨ba, 0, none⟩ [.int .i64 3, .int .i64 0, .string ⟨#[97]⟩, .slice none 0 0] h1 rfl (HB2.out.chg hN id).at_) rfl
    · cases ho
      refine .call (f := 14) (args := #[.int .i64 3]) (W' := W) ?_ ((number_any W 3).mono ?_)
      · simp [go_sem, eg1]
      · rintro e w' ⟨rfl, hc⟩
        exact ⟨_, rfl, hc, rfl⟩
    · cases ho
      have h6 : A0.tmps[6]?.getD undef = .agg #[.int .i64 3, .int .i64 0, .string ⟨#[97]⟩, .slice none 0 0] := hin 0 6 (by kernel_rfl)
      have h7 : A0.tmps[7]?.getD undef = .agg #[.int .i64 1, .int .i64 3, .string ⟨#[]⟩, .slice none 0 0] := hin 1 7 (by kernel_rfl)
      exact .value (W' := W.alloc (.cells #[.int .i64 3, .int .i64 0, .string ⟨#[97]⟩, .slice none 0 0, .int .i64 1, .int .i64 3, .string ⟨#[]⟩, .slice none 0 0] 40)) (v := .slice (some ⟨W.heap.size, 0, none⟩) 2 2) (by simp [go_sem, h6, h7]) ⟨(Chg.refl _ _).alloc _, _, rfl, Blk.new _ _ _⟩
    · cases ho
      have h8 := hin 2 8 (by kernel_rfl)
      obtain ⟨b, e8, hb⟩ := h8
      exact .same (v := .agg #[.string ⟨#[112]⟩, .slice (some ⟨b, 0, none⟩) 2 2, .int .i64 4]) (by simp [go_sem, e8]) ⟨b, rfl, hb⟩
    · cases ho
      have h1 : A0.tmps[1]?.getD undef = .pointer (some ⟨ba, 0, none⟩) := hk 1 (by kernel_rfl)
      exact .same (exec_load 1 _ rfl stVal4 ⟨ba, 0, none⟩ [.int .i64 3, .int .i64 0, .string ⟨#[97]⟩, .slice none 0 0] h1 rfl (HB2.out.chg hN id).at_) rfl
    · cases ho
      refine .call (f := 14) (args := #[.int .i64 5]) (W' := W) ?_ ((number_any W 5).mono ?_)
      · simp [go_sem, eg1]
      · rintro e w' ⟨rfl, hc⟩
        exact ⟨_, rfl, hc, rfl⟩
    · cases ho
      have h10 : A0.tmps[10]?.getD undef = .agg #[.int .i64 3, .int .i64 0, .string ⟨#[97]⟩, .slice none 0 0] := hin 4 10 (by kernel_rfl)
      have h11 : A0.tmps[11]?.getD undef = .agg #[.int .i64 1, .int .i64 5, .string ⟨#[]⟩, .slice none 0 0] := hin 5 11 (by kernel_rfl)
      exact .value (W' := W.alloc (.cells #[.int .i64 3, .int .i64 0, .string ⟨#[97]⟩, .slice none 0 0, .int .i64 1, .int .i64 5, .string ⟨#[]⟩, .slice none 0 0] 40)) (v := .slice (some ⟨W.heap.size, 0, none⟩) 2 2) (by simp [go_sem, h10, h11]) ⟨(Chg.refl _ _).alloc _, _, rfl, Blk.new _ _ _⟩
    · cases ho
      have h12 := hin 6 12 (by kernel_rfl)
      obtain ⟨b, e8, hb⟩ := h12
      exact .same (v := .agg #[.string ⟨#[112]⟩, .slice (some ⟨b, 0, none⟩) 2 2, .int .i64 2]) (by simp [go_sem, e8]) ⟨b, rfl, hb⟩
    · cases ho
      have h9 := hin 3 9 (by kernel_rfl)
      have h13 := hin 7 13 (by kernel_rfl)
      obtain ⟨b, e9, hb⟩ := h9
      obtain ⟨b', e13, hb'⟩ := h13
      have hN1 : New W (W.alloc (.cells #[.string ⟨#[112]⟩, .slice (some ⟨b, 0, none⟩) 2 2, .int .i64 4, .string ⟨#[112]⟩, .slice (some ⟨b', 0, none⟩) 2 2, .int .i64 2] 44)) := (Chg.refl _ _).alloc _
      exact .value (W' := W.alloc (.cells #[.string ⟨#[112]⟩, .slice (some ⟨b, 0, none⟩) 2 2, .int .i64 4, .string ⟨#[112]⟩, .slice (some ⟨b', 0, none⟩) 2 2, .int .i64 2] 44)) (v := .slice (some ⟨W.heap.size, 0, none⟩) 2 2) (by simp [go_sem, e9, e13]) ⟨hN1, blk_rowsl (css := [[.string ⟨#[112]⟩, .slice (some ⟨b, 0, none⟩) 2 2, .int .i64 4], [.string ⟨#[112]⟩, .slice (some ⟨b', 0, none⟩) 2 2, .int .i64 2]]) (rs := [rw11 3 4, rw11 5 2]) (Blk.new _ _ _) (rowsCs_two (row_two (hb.chg hN1 id)) (row_two (hb'.chg hN1 id))) (by decide)⟩
    · cases ho
      have h14 := hin 8 14 (by kernel_rfl)
      exact .same (v := A0.tmps[14]?.getD undef) (by simp [go_sem]) h14
  obtain ⟨x6, x7, x8, x9, x10, x11, x12, x13, x14, x2, rfl⟩ : ∃ x6 x7 x8 x9 x10 x11 x12 x13 x14 x2, l = [x6, x7, x8, x9, x10, x11, x12, x13, x14, x2] := by
    match l, hl with
    | [x6, x7, x8, x9, x10, x11, x12, x13, x14, x2], _ => exact ⟨_, _, _, _, _, _, _, _, _, _, rfl⟩
  obtain rfl : x6 = .agg #[.int .i64 3, .int .i64 0, .string ⟨#[97]⟩, .slice none 0 0] := hΦ 0 (by decide)
  obtain rfl : x7 = .agg #[.int .i64 1, .int .i64 3, .string ⟨#[]⟩, .slice none 0 0] := hΦ 1 (by decide)
  have hx8 := hΦ 2 (by decide)
  have hx9 := hΦ 3 (by decide)
  obtain rfl : x10 = .agg #[.int .i64 3, .int .i64 0, .string ⟨#[97]⟩, .slice none 0 0] := hΦ 4 (by decide)
  obtain rfl : x11 = .agg #[.int .i64 1, .int .i64 5, .string ⟨#[]⟩, .slice none 0 0] := hΦ 5 (by decide)
  have hx12 := hΦ 6 (by decide)
  have hx13 := hΦ 7 (by decide)
  have hx14 := hΦ 8 (by decide)
  have hx2 := hΦ 9 (by decide)
  simp only [putsL, List.zip_cons_cons, List.zip_nil_left, List.zip_nil_right, List.zip, List.zipWith, Act.put, List.setIfInBounds_toArray, List.set_cons_succ, List.set_cons_zero]
  clear hΦ hl
  refine AtN.done rfl ?_
  have HN3 := Lib.hid (HN2.out.trans hN (fun _ _ x => x))
  have HB3 := Lib.hid (HB2.out.chg hN id)
  have HL3 := Lib.hid hx2
  have HG1 := Lib.hid (group_rows W3 .count 1 (by omega) (by omega) x2 _ hx2)
  clear hx8 hx9 hx12 hx13 hx14 hN HN2 HB2
  have hf := hx2.form
  obtain ⟨A2, c2, hv2, _⟩ := hf
  go_wp2_with fail
  refine HG1.out.mono ?_
  rintro e w4 ⟨v4, m4, r4, rfl, hm4, hr4, hl4, hN4⟩
  have h4 := ex11 .count (rw11 2 4) (by decide +kernel) (can_rw11 _ _) (by decide +kernel) hm4 hr4
  subst h4
  have HL4 := Lib.hid (HL3.out.chg hN4)
  have HG2 := Lib.hid (group_rows w4 .max 1 (by omega) (by omega) x2 _ HL4.out)
  have HN4 := Lib.hid (HN3.out.trans hN4 (fun _ _ x => x))
  have HB4 := Lib.hid (HB3.out.chg hN4 id)
  have HC4 := Lib.hid hl4
  clear hm4 hr4 hl4 hN4 HG1 HL3 HN3 HB3 hx2
  go_wp2_with fail
  refine HG2.out.mono ?_
  rintro e w5 ⟨v5, m5, r5, rfl, hm5, hr5, hl5, hN5⟩
  have h5 := ex11 .max (rw11 5 4) (by decide +kernel) (can_rw11 _ _) (by decide +kernel) hm5 hr5
  subst h5
  have hnd : New w5 w5.drew := (Chg.refl _ _).drew
  have HL5 := Lib.hid ((HL4.out.chg hN5).chg hnd)
  have HN5 := Lib.hid ((HN4.out.trans hN5 (fun _ _ x => x)).trans hnd (fun _ _ x => x))
  have HB5 := Lib.hid ((HB4.out.chg hN5 id).chg hnd id)
  have HC5 := Lib.hid ((HC4.out.chg hN5).chg hnd)
  have HD5 := Lib.hid (hl5.chg hnd)
  clear hm5 hr5 hl5 hN5 hnd HG2 HL4 HN4 HB4 HC4
  go_upto_region 5 with fail
  refine wp_region_at (by kernel_rfl) ?_
  generalize w5.drew = we at HL5 HN5 HB5 HC5 HD5 ⊢
  refine AtN.segN2 0 8 [19, 20, 21, 22, 23, 24, 25, 26] (fun
    | 0 => fun v _ => v = v4
    | 1 => fun v _ => v = .agg #[.int .i64 3, .int .i64 0, .string ⟨#[97]⟩, .slice none 0 0]
    | 2 => fun v _ => v = .agg #[.int .i64 1, .int .i64 2, .string ⟨#[]⟩, .slice none 0 0]
    | 3 => fun v W => ∃ b, v = .slice (some ⟨b, 0, none⟩) 2 2 ∧ Blk W b 40 (vcs aV ++ vcs (nV 2)).toArray
    | 4 => fun v W => ∃ b, v = .agg #[.string ⟨#[112]⟩, .slice (some ⟨b, 0, none⟩) 2 2, .int .i64 4] ∧ Blk W b 40 (vcs aV ++ vcs (nV 2)).toArray
    | 5 => fun v W => RowSl W v [rw11 2 4]
    | 6 => fun v _ => v = .bool true
    | 7 => fun v _ => v = .bool true
    | _ => fun _ _ => True) (by kernel_rfl) (by kernel_rfl) (by kernel_rfl) (by kernel_rfl) (fun j v w1 w2 hc h => ?_) (fun i hn hi o ho A0 W hN hin hk => ?_) (fun l W6 hN hl hΦ => ?_)
  · match j with
    | 3 => exact h.imp fun b h => ⟨h.1, h.2.chg hc id⟩
    | 4 => exact h.imp fun b h => ⟨h.1, h.2.chg hc id⟩
    | 5 => exact h.chg hc
    | 0 | 1 | 2 | 6 | 7 => exact h
    | _ + 8 => trivial
  · rcases (show i = 0 ∨ i = 1 ∨ i = 2 ∨ i = 3 ∨ i = 4 ∨ i = 5 ∨ i = 6 ∨ i = 7 by omega) with rfl | rfl | rfl | rfl | rfl | rfl | rfl | rfl
    · cases ho
      exact .same (exec_move 3 _ rfl (hk 3 (by kernel_rfl))) rfl
    · cases ho
      have h1 : A0.tmps[1]?.getD undef = .pointer (some ⟨ba, 0, none⟩) := hk 1 (by kernel_rfl)
      exact .same (exec_load 1 _ rfl stVal4 ⟨ba, 0, none⟩ [.int .i64 3, .int .i64 0, .string ⟨#[97]⟩, .slice none 0 0] h1 rfl (HB5.out.chg hN id).at_) rfl
    · cases ho
      refine .call (f := 14) (args := #[.int .i64 2]) (W' := W) ?_ ((number_any W 2).mono ?_)
      · simp [go_sem, eg1]
      · rintro e w' ⟨rfl, hc⟩
        exact ⟨_, rfl, hc, rfl⟩
    · cases ho
      have h20 : A0.tmps[20]?.getD undef = .agg #[.int .i64 3, .int .i64 0, .string ⟨#[97]⟩, .slice none 0 0] := hin 1 20 (by kernel_rfl)
      have h21 : A0.tmps[21]?.getD undef = .agg #[.int .i64 1, .int .i64 2, .string ⟨#[]⟩, .slice none 0 0] := hin 2 21 (by kernel_rfl)
      exact .value (W' := W.alloc (.cells #[.int .i64 3, .int .i64 0, .string ⟨#[97]⟩, .slice none 0 0, .int .i64 1, .int .i64 2, .string ⟨#[]⟩, .slice none 0 0] 40)) (v := .slice (some ⟨W.heap.size, 0, none⟩) 2 2) (by simp [go_sem, h20, h21]) ⟨(Chg.refl _ _).alloc _, _, rfl, Blk.new _ _ _⟩
    · cases ho
      have h22 := hin 3 22 (by kernel_rfl)
      obtain ⟨b, e8, hb⟩ := h22
      exact .same (v := .agg #[.string ⟨#[112]⟩, .slice (some ⟨b, 0, none⟩) 2 2, .int .i64 4]) (by simp [go_sem, e8]) ⟨b, rfl, hb⟩
    · cases ho
      have h23 := hin 4 23 (by kernel_rfl)
      obtain ⟨b, e8, hb⟩ := h23
      have hN1 : New W (W.alloc (.cells #[.string ⟨#[112]⟩, .slice (some ⟨b, 0, none⟩) 2 2, .int .i64 4] 44)) := (Chg.refl _ _).alloc _
      exact .value (W' := W.alloc (.cells #[.string ⟨#[112]⟩, .slice (some ⟨b, 0, none⟩) 2 2, .int .i64 4] 44)) (v := .slice (some ⟨W.heap.size, 0, none⟩) 1 1) (by simp [go_sem, e8]) ⟨hN1, blk_rowsl (css := [[.string ⟨#[112]⟩, .slice (some ⟨b, 0, none⟩) 2 2, .int .i64 4]]) (rs := [rw11 2 4]) (Blk.new _ _ _) (rowsCs_one (row_two (hb.chg hN1 id))) (by decide)⟩
    · cases ho
      have h19 : A0.tmps[19]?.getD undef = v4 := hin 0 19 (by kernel_rfl)
      have h24 := hin 5 24 (by kernel_rfl)
      have hs := same_sl W _ _ _ (HC5.out.chg hN) (show RowSl W (A0.tmps[24]?.getD undef) _ from h24)
      refine .call (f := 8) (args := #[v4, A0.tmps[24]?.getD undef]) (W' := W) ?_ (hs.mono ?_)
      · simp [go_sem, h19, eg2]
      · rintro e w' ⟨rfl, hc⟩
        exact ⟨_, rfl, hc, rfl⟩
    · cases ho
      exact .same (exec_move 25 _ rfl (hin 6 25 (by kernel_rfl))) rfl
  obtain ⟨x19, x20, x21, x22, x23, x24, x25, x26, rfl⟩ : ∃ x19 x20 x21 x22 x23 x24 x25 x26, l = [x19, x20, x21, x22, x23, x24, x25, x26] := by
    match l, hl with
    | [x19, x20, x21, x22, x23, x24, x25, x26], _ => exact ⟨_, _, _, _, _, _, _, _, rfl⟩
  obtain rfl : x19 = v4 := hΦ 0 (by decide)
  obtain rfl : x20 = .agg #[.int .i64 3, .int .i64 0, .string ⟨#[97]⟩, .slice none 0 0] := hΦ 1 (by decide)
  obtain rfl : x21 = .agg #[.int .i64 1, .int .i64 2, .string ⟨#[]⟩, .slice none 0 0] := hΦ 2 (by decide)
  have hx22 := hΦ 3 (by decide)
  have hx23 := hΦ 4 (by decide)
  have hx24 := hΦ 5 (by decide)
  obtain rfl : x25 = .bool true := hΦ 6 (by decide)
  obtain rfl : x26 = .bool true := hΦ 7 (by decide)
  simp only [putsL, List.zip_cons_cons, List.zip_nil_left, List.zip_nil_right, List.zip, List.zipWith, Act.put, List.setIfInBounds_toArray, List.set_cons_succ, List.set_cons_zero]
  clear hΦ hl
  have HN5b := Lib.hid (HN5.out.trans hN (fun _ _ x => x))
  have HL5b := Lib.hid (HL5.out.chg hN)
  have HB5b := Lib.hid (HB5.out.chg hN id)
  have HD5b := Lib.hid (HD5.out.chg hN)
  clear hN HL5 HB5 HD5 HC5 hx22 hx23 hx24
  refine AtN.segN2 8 17 [27, 28, 29, 30, 31, 32, 33, 34, 35] (fun
    | 8 => fun v _ => v = v5
    | 9 => fun v _ => v = .agg #[.int .i64 3, .int .i64 0, .string ⟨#[97]⟩, .slice none 0 0]
    | 10 => fun v _ => v = .agg #[.int .i64 1, .int .i64 5, .string ⟨#[]⟩, .slice none 0 0]
    | 11 => fun v W => ∃ b, v = .slice (some ⟨b, 0, none⟩) 2 2 ∧ Blk W b 40 (vcs aV ++ vcs (nV 5)).toArray
    | 12 => fun v W => ∃ b, v = .agg #[.string ⟨#[112]⟩, .slice (some ⟨b, 0, none⟩) 2 2, .int .i64 4] ∧ Blk W b 40 (vcs aV ++ vcs (nV 5)).toArray
    | 13 => fun v W => RowSl W v [rw11 5 4]
    | 14 => fun v _ => v = .bool true
    | 15 => fun v _ => v = .bool true
    | 16 => fun v _ => v = .bool true
    | _ => fun _ _ => True) (by kernel_rfl) (by kernel_rfl) (by kernel_rfl) (by kernel_rfl) (fun j v w1 w2 hc h => ?_) (fun i hn hi o ho A0 W hN hin hk => ?_) (fun l W7 hN hl hΦ => ?_)
  · match j with
    | 11 => exact h.imp fun b h => ⟨h.1, h.2.chg hc id⟩
    | 12 => exact h.imp fun b h => ⟨h.1, h.2.chg hc id⟩
    | 13 => exact h.chg hc
    | 8 | 9 | 10 | 14 | 15 | 16 => exact h
    | 0 | 1 | 2 | 3 | 4 | 5 | 6 | 7 => trivial
    | _ + 17 => trivial
  · rcases (show i = 8 ∨ i = 9 ∨ i = 10 ∨ i = 11 ∨ i = 12 ∨ i = 13 ∨ i = 14 ∨ i = 15 ∨ i = 16 by omega) with rfl | rfl | rfl | rfl | rfl | rfl | rfl | rfl | rfl
    · cases ho
      exact .same (exec_move 4 _ rfl (hk 4 (by kernel_rfl))) rfl
    · cases ho
      have h1 : A0.tmps[1]?.getD undef = .pointer (some ⟨ba, 0, none⟩) := hk 1 (by kernel_rfl)
      exact .same (exec_load 1 _ rfl stVal4 ⟨ba, 0, none⟩ [.int .i64 3, .int .i64 0, .string ⟨#[97]⟩, .slice none 0 0] h1 rfl (HB5b.out.chg hN id).at_) rfl
    · cases ho
      refine .call (f := 14) (args := #[.int .i64 5]) (W' := W) ?_ ((number_any W 5).mono ?_)
      · simp [go_sem, eg1]
      · rintro e w' ⟨rfl, hc⟩
        exact ⟨_, rfl, hc, rfl⟩
    · cases ho
      have h28 : A0.tmps[28]?.getD undef = .agg #[.int .i64 3, .int .i64 0, .string ⟨#[97]⟩, .slice none 0 0] := hin 9 28 (by kernel_rfl)
      have h29 : A0.tmps[29]?.getD undef = .agg #[.int .i64 1, .int .i64 5, .string ⟨#[]⟩, .slice none 0 0] := hin 10 29 (by kernel_rfl)
      exact .value (W' := W.alloc (.cells #[.int .i64 3, .int .i64 0, .string ⟨#[97]⟩, .slice none 0 0, .int .i64 1, .int .i64 5, .string ⟨#[]⟩, .slice none 0 0] 40)) (v := .slice (some ⟨W.heap.size, 0, none⟩) 2 2) (by simp [go_sem, h28, h29]) ⟨(Chg.refl _ _).alloc _, _, rfl, Blk.new _ _ _⟩
    · cases ho
      have h30 := hin 11 30 (by kernel_rfl)
      obtain ⟨b, e8, hb⟩ := h30
      exact .same (v := .agg #[.string ⟨#[112]⟩, .slice (some ⟨b, 0, none⟩) 2 2, .int .i64 4]) (by simp [go_sem, e8]) ⟨b, rfl, hb⟩
    · cases ho
      have h31 := hin 12 31 (by kernel_rfl)
      obtain ⟨b, e8, hb⟩ := h31
      have hN1 : New W (W.alloc (.cells #[.string ⟨#[112]⟩, .slice (some ⟨b, 0, none⟩) 2 2, .int .i64 4] 44)) := (Chg.refl _ _).alloc _
      exact .value (W' := W.alloc (.cells #[.string ⟨#[112]⟩, .slice (some ⟨b, 0, none⟩) 2 2, .int .i64 4] 44)) (v := .slice (some ⟨W.heap.size, 0, none⟩) 1 1) (by simp [go_sem, e8]) ⟨hN1, blk_rowsl (css := [[.string ⟨#[112]⟩, .slice (some ⟨b, 0, none⟩) 2 2, .int .i64 4]]) (rs := [rw11 5 4]) (Blk.new _ _ _) (rowsCs_one (row_two (hb.chg hN1 id))) (by decide)⟩
    · cases ho
      have h27 : A0.tmps[27]?.getD undef = v5 := hin 8 27 (by kernel_rfl)
      have h32 := hin 13 32 (by kernel_rfl)
      have hs := same_sl W _ _ _ (HD5b.out.chg hN) (show RowSl W (A0.tmps[32]?.getD undef) _ from h32)
      refine .call (f := 8) (args := #[v5, A0.tmps[32]?.getD undef]) (W' := W) ?_ (hs.mono ?_)
      · simp [go_sem, h27, eg2]
      · rintro e w' ⟨rfl, hc⟩
        exact ⟨_, rfl, hc, rfl⟩
    · cases ho
      have h26 : A0.tmps[26]?.getD undef = .bool true := hk 26 (by kernel_rfl)
      have h33 : A0.tmps[33]?.getD undef = .bool true := hin 14 33 (by kernel_rfl)
      exact .same (by simp [go_sem, h26, h33]) rfl
    · cases ho
      exact .same (exec_move 34 _ rfl (hin 15 34 (by kernel_rfl))) rfl
  obtain ⟨y27, y28, y29, y30, y31, y32, y33, y34, y35, rfl⟩ : ∃ y27 y28 y29 y30 y31 y32 y33 y34 y35, l = [y27, y28, y29, y30, y31, y32, y33, y34, y35] := by
    match l, hl with
    | [y27, y28, y29, y30, y31, y32, y33, y34, y35], _ => exact ⟨_, _, _, _, _, _, _, _, _, rfl⟩
  obtain rfl : y27 = v5 := hΦ 0 (by decide)
  obtain rfl : y28 = .agg #[.int .i64 3, .int .i64 0, .string ⟨#[97]⟩, .slice none 0 0] := hΦ 1 (by decide)
  obtain rfl : y29 = .agg #[.int .i64 1, .int .i64 5, .string ⟨#[]⟩, .slice none 0 0] := hΦ 2 (by decide)
  have hy30 := hΦ 3 (by decide)
  have hy31 := hΦ 4 (by decide)
  have hy32 := hΦ 5 (by decide)
  obtain rfl : y33 = .bool true := hΦ 6 (by decide)
  obtain rfl : y34 = .bool true := hΦ 7 (by decide)
  obtain rfl : y35 = .bool true := hΦ 8 (by decide)
  simp only [putsL, List.zip_cons_cons, List.zip_nil_left, List.zip_nil_right, List.zip, List.zipWith, Act.put, List.setIfInBounds_toArray, List.set_cons_succ, List.set_cons_zero]
  clear hΦ hl
  have HN5d := Lib.hid (HN5b.out.trans hN (fun _ _ x => x))
  clear hN HL5b HB5b HD5b hy30 hy31 hy32
  refine AtN.segN2 17 23 [36, 37, 38, 39, 40, 0] (fun
    | 17 => fun v _ => v = x2
    | 18 => fun v _ => v = .slice none 0 0
    | 19 => fun v _ => v = .int .i64 0
    | 20 => fun v _ => v = .bool true
    | 21 => fun v _ => v = .bool true
    | 22 => fun v _ => v = .bool true
    | _ => fun _ _ => True) (by kernel_rfl) (by kernel_rfl) (by kernel_rfl) (by kernel_rfl) (fun j v w1 w2 hc h => ?_) (fun i hn hi o ho A0 W hN hin hk => ?_) (fun l W8 hN hl hΦ => ?_)
  · match j with
    | 17 | 18 | 19 | 20 | 21 | 22 => exact h
    | 0 | 1 | 2 | 3 | 4 | 5 | 6 | 7 | 8 | 9 | 10 | 11 | 12 | 13 | 14 | 15 | 16 => trivial
    | _ + 23 => trivial
  · rcases (show i = 17 ∨ i = 18 ∨ i = 19 ∨ i = 20 ∨ i = 21 ∨ i = 22 by omega) with rfl | rfl | rfl | rfl | rfl | rfl
    · cases ho
      exact .same (exec_move 2 _ rfl (hk 2 (by kernel_rfl))) rfl
    · cases ho
      have h36 : A0.tmps[36]?.getD undef = x2 := hin 17 36 (by kernel_rfl)
      refine .call (f := 12) (args := #[.string ⟨#[115, 117, 109]⟩, .int .i64 1, x2]) (W' := W) ?_ ((group_sum W 1 x2).mono ?_)
      · simp [go_sem, h36, eg3]
      · rintro e w' ⟨rfl, rfl⟩
        exact ⟨_, rfl, Chg.refl _ _, rfl⟩
    · cases ho
      have h37 : A0.tmps[37]?.getD undef = .slice none 0 0 := hin 18 37 (by kernel_rfl)
      exact .same (by simp [go_sem, h37]) rfl
    · cases ho
      have h38 : A0.tmps[38]?.getD undef = .int .i64 0 := hin 19 38 (by kernel_rfl)
      exact .same (by simp [go_sem, h38]) rfl
    · cases ho
      have h35 : A0.tmps[35]?.getD undef = .bool true := hk 35 (by kernel_rfl)
      have h39 : A0.tmps[39]?.getD undef = .bool true := hin 20 39 (by kernel_rfl)
      exact .same (by simp [go_sem, h35, h39]) rfl
    · cases ho
      have h40 : A0.tmps[40]?.getD undef = .bool true := hin 21 40 (by kernel_rfl)
      exact .same (by simp [go_sem, h40]) rfl
  obtain ⟨z36, z37, z38, z39, z40, z0, rfl⟩ : ∃ z36 z37 z38 z39 z40 z0, l = [z36, z37, z38, z39, z40, z0] := by
    match l, hl with
    | [z36, z37, z38, z39, z40, z0], _ => exact ⟨_, _, _, _, _, _, rfl⟩
  obtain rfl : z36 = x2 := hΦ 0 (by decide)
  obtain rfl : z37 = .slice none 0 0 := hΦ 1 (by decide)
  obtain rfl : z38 = .int .i64 0 := hΦ 2 (by decide)
  obtain rfl : z39 = .bool true := hΦ 3 (by decide)
  obtain rfl : z40 = .bool true := hΦ 4 (by decide)
  obtain rfl : z0 = .bool true := hΦ 5 (by decide)
  simp only [putsL, List.zip_cons_cons, List.zip_nil_left, List.zip_nil_right, List.zip, List.zipWith, Act.put, List.setIfInBounds_toArray, List.set_cons_succ, List.set_cons_zero]
  clear hΦ hl
  have HN5c := Lib.hid (HN5d.out.trans hN (fun _ _ x => x))
  clear hN
  refine AtN.done rfl ?_
  go_wp2_with fail
  go_ret
  exact ⟨rfl, HN5c.out⟩
end Go.Proofs.YtfocjfnkcabbgaaGreat
