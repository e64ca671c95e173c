/- group.alike: rows that are the same but for their last arguments. -/
import Derived.Test.YtfocjfnkcabbgaaGreatBack
set_option linter.unusedVariables false
set_option linter.unusedSimpArgs false
namespace Go.Proofs.YtfocjfnkcabbgaaGreat
open Go.RowKit Go.Shelf

set_option maxHeartbeats 1000000 in
theorem eq_val (a b : Vl) (w : World) : Calls Tryz.prog 55 #[.agg #[.int .i64 a.k, .int .i64 a.i, .string a.t, .slice none 0 0], .agg #[.int .i64 b.k, .int .i64 b.i, .string b.t, .slice none 0 0]] w fun e w' => e = .returned (.bool (decide (cmpV a b = 0))) ∧ New w w' := by
  obtain ⟨w1, hw1⟩ : ∃ w1, w1 = (w.alloc (.cells #[.int .i64 a.k, .int .i64 a.i, .string a.t, .slice none 0 0] 40)).alloc (.cells #[.int .i64 b.k, .int .i64 b.i, .string b.t, .slice none 0 0] 40) := ⟨_, rfl⟩
  have hN1 : New w w1 := by rw [hw1]; exact ((Chg.refl _ _).alloc _).alloc _
  obtain ⟨q, hq⟩ : ∃ q, cmpV a b = q := ⟨_, rfl⟩
  have hc := cmp_val a b w1
  rw [hq] at hc ⊢
  have Hc := Lib.hid hc
  have HN1 := Lib.hid hN1
  have HW1 := Lib.hid hw1
  clear hc hN1 hw1 hq
  go_enter Tryz.func55, Tryz.ntmps55
  go_wp2_with fail
  rw [← HW1.out]
  refine Hc.out.mono ?_
  rintro e w2 ⟨rfl, hN2⟩
  have HN2 := Lib.hid (HN1.out.trans hN2 (fun _ _ x => x))
  clear hN2
  have hd : (q == 0) = decide (q = 0) := by by_cases h : q = 0 <;> simp [h]
  have Hd := Lib.hid hd
  clear hd
  go_wp2_with fail
  go_ret
  exact ⟨congrArg (fun z => Ending.returned (.bool z)) (by first | exact Hd.out | rfl), HN2.out⟩

set_option maxHeartbeats 4000000 in
set_option maxRecDepth 100000 in
theorem eq_vals (w : World) (A : Option Addr) (n c : Nat) (B : Option Addr) (d : Nat) (us vs : List Vl) (hn : n = us.length) (hm : n = vs.length) (hnb : n ≤ 1000000) (hA : SrcAt w A 4 (us.map vcs)) (hB : SrcAt w B 4 (vs.map vcs)) :
    Calls Tryz.prog 54 #[.slice A n c, .slice B n d, .func (.func 55) #[] #[]] w fun e w' => e = .returned (.bool (decide (cmpL cmpV us vs = 0))) ∧ New w w' := by
  have eg := enters_of Tryz.func55 (by kernel_rfl) rfl
  unfold Enters at eg
  obtain ⟨R, hR⟩ : ∃ R, cmpL cmpV us vs = R := ⟨_, rfl⟩
  rw [hR]
  have hnn : ((n : Int) != (n : Int)) = false := by simp
  have HA := Lib.hid hA
  have HB := Lib.hid hB
  have HN := Lib.hid hn
  have HM := Lib.hid hm
  have HR := Lib.hid hR
  clear hA hB hn hm hR
  go_enter Tryz.func54, Tryz.ntmps54
  go_wp2_with fail
  go_loopw [17] (fun u17 wr => ∃ k : Nat, k ≤ n ∧ u17 = .int .i64 k ∧ New w wr ∧ cmpL cmpV (us.drop k) (vs.drop k) = R) (fun u _ => n - (intOf u).toNat)
  case atStart => exact ⟨0, Nat.zero_le _, rfl, Chg.refl _ _, by rw [List.drop_zero, List.drop_zero]; exact HR.out⟩
  case round =>
    obtain ⟨k, hkn, rfl, hN, hr⟩ := hrel
    have HNw := Lib.hid hN
    have Hr := Lib.hid hr
    clear hN hr
    by_cases hlt : k < n
    · obtain ⟨x, hx⟩ : ∃ x, us[k]? = some x := ⟨_, List.getElem?_eq_getElem (by rw [← HN.out]; exact hlt)⟩
      obtain ⟨ad, rfl, hrA⟩ := HA.out (by rw [List.length_map, ← HN.out]; omega)
      have hat := (hrA k (vcs x) (by rw [List.getElem?_map, hx]; rfl)).2.chg HNw.out id
      change At _ _ [.int .i64 x.k, .int .i64 x.i, .string x.t, .slice none 0 0] at hat
      have Hat := Lib.hid hat
      have Hx := Lib.hid hx
      clear hat hx hrA
      have k0 : (0 : Int) ≤ (k : Int) := by omega
      have k1 : (k : Int) < (n : Int) := by omega
      obtain ⟨y, hy⟩ : ∃ y, vs[k]? = some y := ⟨_, List.getElem?_eq_getElem (by rw [← HM.out]; exact hlt)⟩
      obtain ⟨bd, rfl, hrB⟩ := HB.out (by rw [List.length_map, ← HM.out]; omega)
      obtain ⟨w1, hw1⟩ : ∃ w1, w1 = wr.alloc (.cells #[.int .i64 x.k, .int .i64 x.i, .string x.t, .slice none 0 0] 40) := ⟨_, rfl⟩
      have hN1 : New wr w1 := by rw [hw1]; exact (Chg.refl _ _).alloc _
      have hB1 : Blk w1 wr.heap.size 40 #[.int .i64 x.k, .int .i64 x.i, .string x.t, .slice none 0 0] := by rw [hw1]; exact Blk.new wr _ _
      have hbt := ((hrB k (vcs y) (by rw [List.getElem?_map, hy]; rfl)).2.chg HNw.out id).chg hN1 id
      change At _ _ [.int .i64 y.k, .int .i64 y.i, .string y.t, .slice none 0 0] at hbt
      obtain ⟨w2, hw2⟩ : ∃ w2, w2 = w1.alloc (.cells #[.int .i64 y.k, .int .i64 y.i, .string y.t, .slice none 0 0] 40) := ⟨_, rfl⟩
      have hN2 : New w1 w2 := by rw [hw2]; exact (Chg.refl _ _).alloc _
      have hB2 : Blk w2 w1.heap.size 40 #[.int .i64 y.k, .int .i64 y.i, .string y.t, .slice none 0 0] := by rw [hw2]; exact Blk.new w1 _ _
      have HB1 := Lib.hid (show At w2 ⟨wr.heap.size, 0, none⟩ [.int .i64 x.k, .int .i64 x.i, .string x.t, .slice none 0 0] from (hB1.chg hN2 id).at_)
      have HB2 := Lib.hid (show At w2 ⟨w1.heap.size, 0, none⟩ [.int .i64 y.k, .int .i64 y.i, .string y.t, .slice none 0 0] from hB2.at_)
      have HNn := Lib.hid ((HNw.out.trans hN1 (fun _ _ x => x)).trans hN2 (fun _ _ x => x))
      have Hy := Lib.hid hy
      have Hbt := Lib.hid hbt
      have HW1 := Lib.hid hw1
      have HW2 := Lib.hid hw2
      obtain ⟨q, hq⟩ : ∃ q, cmpV x y = q := ⟨_, rfl⟩
      have hcv := eq_val x y w2
      rw [hq] at hcv
      have Hq := Lib.hid hq
      have hdr := Lib.hid ((cmpL_drop (c := cmpV) Hx.out Hy.out).symm.trans Hr.out)
      obtain ⟨b, hb⟩ : ∃ b, decide (q = 0) = b := ⟨_, rfl⟩
      rw [hb] at hcv
      have Hcv := Lib.hid hcv
      have Hb := Lib.hid hb
      clear hy hrB hN1 hB1 hbt hN2 hB2 hw1 hw2 hq hcv hb
      go_upto_region 6 with ((with_reducible refine wpl_load rfl (.tmp 20) 40 rfl stVal4 (ad.add (k * 4)) [.int .i64 x.k, .int .i64 x.i, .string x.t, .slice none 0 0] ?_ rfl Hat.out ?_); exact rfl)
      rw [← HW1.out]
      go_upto_region 7 with ((with_reducible refine wpl_load rfl (.tmp 24) 40 rfl stVal4 (bd.add (k * 4)) [.int .i64 y.k, .int .i64 y.i, .string y.t, .slice none 0 0] ?_ rfl Hbt.out ?_); exact rfl)
      rw [← HW2.out]
      go_wp2_with (first | ((with_reducible refine wpl_load rfl (.tmp 8) 40 rfl stVal4 ⟨wr.heap.size, 0, none⟩ [.int .i64 x.k, .int .i64 x.i, .string x.t, .slice none 0 0] ?_ rfl HB1.out ?_); exact rfl) | ((with_reducible refine wpl_load rfl (.tmp 9) 40 rfl stVal4 ⟨w1.heap.size, 0, none⟩ [.int .i64 y.k, .int .i64 y.i, .string y.t, .slice none 0 0] ?_ rfl HB2.out ?_); exact rfl))
      refine Hcv.out.mono ?_
      rintro e W ⟨rfl, hN3⟩
      have HN3 := Lib.hid (HNn.out.trans hN3 (fun _ _ x => x))
      clear hN3
      cases b with
      | true =>
        have HR2 := Lib.hid (show cmpL cmpV (us.drop (k + 1)) (vs.drop (k + 1)) = R by have := hdr.out; rw [Hq.out, if_pos (of_decide_eq_true Hb.out)] at this; exact this)
        go_wp2_with fail
        go_roundw
        case rel => exact ⟨k + 1, by omega, by go_num, HN3.out, HR2.out⟩
        case measure => simp only [intOf]; omega
      | false =>
        have HR2 := Lib.hid (show q = R by have := hdr.out; rw [Hq.out, if_neg (of_decide_eq_false Hb.out)] at this; exact this)
        go_wp2_with fail
        go_ret
        exact ⟨congrArg (fun z => Ending.returned (.bool z)) (by rw [← HR2.out]; exact Hb.out.symm), HN3.out⟩
    · have HR2 := Lib.hid (show R = 0 by
        have := Hr.out
        rw [List.drop_of_length_le (by rw [← HN.out]; omega), List.drop_of_length_le (by rw [← HM.out]; omega)] at this
        exact this.symm)
      go_wp2_with fail
      go_ret
      exact ⟨by rw [HR2.out]; rfl, HNw.out⟩
end Go.Proofs.YtfocjfnkcabbgaaGreat
