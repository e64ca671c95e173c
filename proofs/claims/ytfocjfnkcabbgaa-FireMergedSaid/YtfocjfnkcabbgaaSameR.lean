/- The laws' comparisons: values, lists of them, rows; The laws' comparison of lists of rows, of the same rows. -/
import Derived.Test.YtfocjfnkcabbgaaCmpW
import Derived.Test.YtfocjfnkcabbgaaMrgW
import Derived.Test.YtfocjfnkcabbgaaOpenR
set_option linter.unusedVariables false
set_option linter.unusedSimpArgs false
namespace Go.Proofs.Ytfocjfnkcabbgaa
open Go.RowKit Go.Shelf

theorem tl_eq' {a b : ByteArray} : a.toList = b.toList ↔ a = b := by
  rw [ByteArray.toList_eq, ByteArray.toList_eq]
  exact ⟨fun h => ByteArray.ext (Array.toList_inj.mp h), fun h => by rw [h]⟩

set_option maxHeartbeats 1000000 in
set_option maxRecDepth 100000 in
theorem vals_nil (w : World) : Calls Try.prog 21 #[.slice none 0 0, .slice none 0 0] w fun e w' => e = .returned (.bool true) ∧ w = w' := by
  go_enter Try.func21, Try.ntmps21
  go_wp2
  refine wp_loop_rounds 1 ?_
  rw [rounds_succ]
  go_wp2
  go_ret
  exact ⟨rfl, rfl⟩

set_option maxHeartbeats 4000000 in
set_option maxRecDepth 100000 in
theorem same_val (a b : Vl) (w : World) : Calls Try.prog 41 #[.agg #[.int .i64 a.k, .int .i64 a.i, .string a.t, .slice none 0 0], .agg #[.int .i64 b.k, .int .i64 b.i, .string b.t, .slice none 0 0]] w fun e w' => e = .returned (.bool (decide (a = b))) ∧ New w w' := by
  have hN : New w ((w.alloc (.cells #[.int .i64 a.k, .int .i64 a.i, .string a.t, .slice none 0 0] 37)).alloc (.cells #[.int .i64 b.k, .int .i64 b.i, .string b.t, .slice none 0 0] 37)) := ((Chg.refl w _).alloc _).alloc _
  obtain ⟨R, hR⟩ : ∃ R, decide (a = b) = R := ⟨_, rfl⟩
  rw [hR]
  obtain ⟨f1, h1⟩ : ∃ f, (a.k == b.k) = f := ⟨_, rfl⟩
  obtain ⟨f2, h2⟩ : ∃ f, (a.i == b.i) = f := ⟨_, rfl⟩
  obtain ⟨f3, h3⟩ : ∃ f, (a.t.toList == b.t.toList) = f := ⟨_, rfl⟩
  have hRf : R = (f1 && f2 && f3) := by
    rw [← hR, ← h1, ← h2, ← h3, Bool.eq_iff_iff]
    cases a; cases b
    simp [tl_eq', and_assoc]
  have hnil := Lib.hid (fun W => vals_nil W)
  have HN := Lib.hid hN
  have HR := Lib.hid hRf
  clear hN hR hRf
  cases f1 with
  | false =>
    have HR2 := Lib.hid (show false = R by rw [HR.out]; rfl)
    clear HR
    go_enter Try.func41, Try.ntmps41
    go_wp2_with fail
    go_ret
    exact ⟨congrArg (fun z => Ending.returned (.bool z)) HR2.out, HN.out⟩
  | true =>
    cases f2 with
    | false =>
      have HR2 := Lib.hid (show false = R by rw [HR.out]; rfl)
      clear HR
      go_enter Try.func41, Try.ntmps41
      go_wp2_with fail
      go_ret
      exact ⟨congrArg (fun z => Ending.returned (.bool z)) HR2.out, HN.out⟩
    | true =>
      cases f3 with
      | false =>
        have HR2 := Lib.hid (show false = R by rw [HR.out]; rfl)
        clear HR
        go_enter Try.func41, Try.ntmps41
        go_wp2_with fail
        go_ret
        exact ⟨congrArg (fun z => Ending.returned (.bool z)) HR2.out, HN.out⟩
      | true =>
        have HR2 := Lib.hid (show true = R by rw [HR.out]; rfl)
        clear HR
        go_enter Try.func41, Try.ntmps41
        go_wp2_with (refine (hnil.out _).mono ?_; rintro e w' ⟨rfl, rfl⟩)
        go_ret
        exact ⟨congrArg (fun z => Ending.returned (.bool z)) HR2.out, HN.out⟩

set_option maxHeartbeats 4000000 in
set_option maxRecDepth 100000 in
theorem same_vals (w : World) (A : Option Addr) (n c : Nat) (B : Option Addr) (m d : Nat) (us vs : List Vl) (hn : n = us.length) (hm : m = vs.length) (hnb : n ≤ 1000000) (hmb : m ≤ 1000000) (hA : SrcAt w A 4 (us.map vcs)) (hB : SrcAt w B 4 (vs.map vcs)) :
    Calls Try.prog 21 #[.slice A n c, .slice B m d] w fun e w' => e = .returned (.bool (decide (us = vs))) ∧ New w w' := by
  obtain ⟨R, hR⟩ : ∃ R, decide (us = vs) = R := ⟨_, rfl⟩
  rw [hR]
  by_cases hnm : n = m
  · subst hnm
    have hne : ((n : Int) != (n : Int)) = false := by simp
    have HA := Lib.hid hA
    have HB := Lib.hid hB
    have HN := Lib.hid hn
    have HM := Lib.hid hm
    have HR := Lib.hid hR
    clear hA hB hn hm hR
    go_enter Try.func21, Try.ntmps21
    go_wp2_with fail
    go_loopw [5] (fun u5 wr => ∃ k : Nat, k ≤ n ∧ u5 = .int .i64 k ∧ New w wr ∧ us.take k = vs.take k) (fun u _ => n - (intOf u).toNat)
    case atStart => exact ⟨0, Nat.zero_le _, rfl, Chg.refl _ _, rfl⟩
    case round =>
      obtain ⟨k, hkn, rfl, hN, ht⟩ := hrel
      have HNw := Lib.hid hN
      have Ht := Lib.hid ht
      clear hN ht
      by_cases hlt : k < n
      · obtain ⟨x, hx⟩ : ∃ x, us[k]? = some x := ⟨_, List.getElem?_eq_getElem (by rw [← HN.out]; exact hlt)⟩
        obtain ⟨y, hy⟩ : ∃ y, vs[k]? = some y := ⟨_, List.getElem?_eq_getElem (by rw [← HM.out]; exact hlt)⟩
        obtain ⟨ad, rfl, hrA⟩ := HA.out (by rw [List.length_map, ← HN.out]; omega)
        obtain ⟨bd, rfl, hrB⟩ := HB.out (by rw [List.length_map, ← HM.out]; omega)
        have hat := (hrA k (vcs x) (by rw [List.getElem?_map, hx]; rfl)).2.chg HNw.out.drew id
        have hbt := (hrB k (vcs y) (by rw [List.getElem?_map, hy]; rfl)).2.chg HNw.out.drew id
        obtain ⟨b, hb⟩ : ∃ b, decide (x = y) = b := ⟨_, rfl⟩
        have hcall := same_val x y wr.drew
        rw [hb] at hcall
        have Hat := Lib.hid hat
        have Hbt := Lib.hid hbt
        have Hx := Lib.hid hx
        have Hy := Lib.hid hy
        have Hb := Lib.hid hb
        have Hcall := Lib.hid hcall
        have HNd := Lib.hid HNw.out.drew
        clear hat hbt hx hy hrA hrB hb hcall
        have q0 : (0 : Int) ≤ (k : Int) := by omega
        have q1 : (k : Int) < (n : Int) := by omega
        go_wp2_with fail
        refine wp_region_at (by kernel_rfl) ?_
        generalize wr.drew = wd at Hat Hbt Hcall HNd ⊢
        refine AtN.segQ2 0 8 (fun
          | 0 => .slice (some ad) n c
          | 1 => .int .i64 k
          | 2 => .pointer (some (ad.add (k * 4)))
          | 3 => .agg #[.int .i64 x.k, .int .i64 x.i, .string x.t, .slice none 0 0]
          | 4 => .slice (some bd) n d
          | 5 => .int .i64 k
          | 6 => .pointer (some (bd.add (k * 4)))
          | _ => .agg #[.int .i64 y.k, .int .i64 y.i, .string y.t, .slice none 0 0])
          [(18, .slice (some ad) n c), (19, .int .i64 k), (20, .pointer (some (ad.add (k * 4)))), (21, .agg #[.int .i64 x.k, .int .i64 x.i, .string x.t, .slice none 0 0]), (22, .slice (some bd) n d), (23, .int .i64 k), (24, .pointer (some (bd.add (k * 4)))), (25, .agg #[.int .i64 y.k, .int .i64 y.i, .string y.t, .slice none 0 0])] (by kernel_rfl) (by kernel_rfl) (by kernel_rfl) (by kernel_rfl) rfl (fun i hn hi o ho A0 hin hk => ?_) ?_
        · rcases (show i = 0 ∨ i = 1 ∨ i = 2 ∨ i = 3 ∨ i = 4 ∨ i = 5 ∨ i = 6 ∨ i = 7 by omega) with rfl | rfl | rfl | rfl | rfl | rfl | rfl | rfl
          · cases ho
            exact exec_move 0 _ rfl (hk 0 (by kernel_rfl))
          · cases ho
            exact exec_move 5 _ rfl (hk 5 (by kernel_rfl))
          · cases ho
            have h18 : A0.tmps[18]?.getD undef = .slice (some ad) n c := hin 0 18 (by kernel_rfl)
            have h19 : A0.tmps[19]?.getD undef = .int .i64 k := hin 1 19 (by kernel_rfl)
            exact by simp [go_sem, h18, h19, q0, q1, hlt]
          · cases ho
            have h20 : A0.tmps[20]?.getD undef = .pointer (some (ad.add (k * 4))) := hin 2 20 (by kernel_rfl)
            exact exec_load 20 _ rfl stVal4 (ad.add (k * 4)) (vcs x) h20 rfl Hat.out
          · cases ho
            exact exec_move 1 _ rfl (hk 1 (by kernel_rfl))
          · cases ho
            exact exec_move 5 _ rfl (hk 5 (by kernel_rfl))
          · cases ho
            have h22 : A0.tmps[22]?.getD undef = .slice (some bd) n d := hin 4 22 (by kernel_rfl)
            have h23 : A0.tmps[23]?.getD undef = .int .i64 k := hin 5 23 (by kernel_rfl)
            exact by simp [go_sem, h22, h23, q0, q1, hlt]
          · cases ho
            have h24 : A0.tmps[24]?.getD undef = .pointer (some (bd.add (k * 4))) := hin 6 24 (by kernel_rfl)
            exact exec_load 24 _ rfl stVal4 (bd.add (k * 4)) (vcs y) h24 rfl Hbt.out
        simp only [putsL, Act.put, List.setIfInBounds_toArray, List.set_cons_succ, List.set_cons_zero]
        refine AtN.list 8 10 (by kernel_rfl) ?_
        change wpList _ _ _ [_, _] _ _
        go_wp2_with fail
        refine Hcall.out.mono ?_
        rintro e3 W3 ⟨rfl, hN3⟩
        have HN3 := Lib.hid (HNd.out.trans hN3 (fun _ _ x => x))
        clear hN3 Hcall HNd Hat Hbt
        cases b with
        | true =>
          have Ht2 := Lib.hid (show us.take (k + 1) = vs.take (k + 1) by rw [take_succ_get Hx.out, take_succ_get Hy.out, Ht.out, of_decide_eq_true Hb.out])
          go_wp2_with fail
          change AtN _ _ _ 10 _ _
          refine AtN.done rfl ?_
          go_wp2_with fail
          go_roundw
          case rel => exact ⟨k + 1, by omega, by go_num, HN3.out, Ht2.out⟩
          case measure => simp only [intOf]; omega
        | false =>
          have HR2 := Lib.hid (show false = R by
            rw [← HR.out]
            symm
            rw [decide_eq_false_iff_not]
            rintro rfl
            have h := Hx.out
            rw [Hy.out] at h
            exact of_decide_eq_false Hb.out (Option.some.inj h).symm)
          go_wp2_with fail
          change AtN _ _ _ 10 _ _
          refine AtN.done rfl ?_
          go_wp2_with fail
          go_ret
          exact ⟨congrArg (fun z => Ending.returned (.bool z)) HR2.out, HN3.out⟩
      · have HR2 := Lib.hid (show true = R by
          have h := Ht.out
          rw [show us.take k = us from List.take_of_length_le (by rw [← HN.out]; omega), show vs.take k = vs from List.take_of_length_le (by rw [← HM.out]; omega)] at h
          rw [← HR.out, h]; simp)
        go_wp2_with fail
        go_ret
        exact ⟨congrArg (fun z => Ending.returned (.bool z)) HR2.out, HNw.out⟩
  · have hne : ((n : Int) != (m : Int)) = true := by simp; omega
    have hne2 : ((n : Int) == (m : Int)) = false := by rw [beq_eq_false_iff_ne]; omega
    have HR2 := Lib.hid (show false = R by
      rw [← hR]
      symm
      rw [decide_eq_false_iff_not]
      rintro rfl
      omega)
    clear hR hn hm hA hB hnm
    go_enter Try.func21, Try.ntmps21
    go_wp2_with fail
    go_ret
    exact ⟨congrArg (fun z => Ending.returned (.bool z)) HR2.out, Chg.refl _ _⟩
end Go.Proofs.Ytfocjfnkcabbgaa

set_option linter.unusedVariables false
set_option linter.unusedSimpArgs false
namespace Go.Proofs.Ytfocjfnkcabbgaa
open Go.RowKit Go.Shelf

set_option maxHeartbeats 4000000 in
set_option maxRecDepth 100000 in
theorem same_rows (w : World) (A : Option Addr) (n c : Nat) (B : Option Addr) (d : Nat) (css dss : List (List Value)) (rs : List Rw) (hn : n = rs.length) (hnb : n ≤ 1000000) (hA : SrcAt w A 3 css) (hB : SrcAt w B 3 dss) (hra : RowsCs w css rs) (hrb : RowsCs w dss rs) :
    Calls Try.prog 8 #[.slice A n c, .slice B n d] w fun e w' => e = .returned (.bool true) ∧ New w w' := by
  have hne : ((n : Int) != (n : Int)) = false := by simp
  have HA := Lib.hid hA
  have HB := Lib.hid hB
  have HN := Lib.hid hn
  have HRa := Lib.hid hra
  have HRb := Lib.hid hrb
  clear hA hB hn hra hrb
  go_enter Try.func8, Try.ntmps8
  go_wp2_with fail
  go_loopw [5] (fun u5 wr => ∃ k : Nat, k ≤ n ∧ u5 = .int .i64 k ∧ New w wr) (fun u _ => n - (intOf u).toNat)
  case atStart => exact ⟨0, Nat.zero_le _, rfl, Chg.refl _ _⟩
  case round =>
    obtain ⟨k, hkn, rfl, hN⟩ := hrel
    have HNw := Lib.hid hN
    clear hN
    by_cases hlt : k < n
    · obtain ⟨cs, hcs⟩ : ∃ cs, css[k]? = some cs := ⟨_, List.getElem?_eq_getElem (by rw [HRa.out.1, ← HN.out]; exact hlt)⟩
      obtain ⟨ds, hds⟩ : ∃ ds, dss[k]? = some ds := ⟨_, List.getElem?_eq_getElem (by rw [HRb.out.1, ← HN.out]; exact hlt)⟩
      obtain ⟨r, hr1, hrow⟩ := HRa.out.2 k cs hcs
      obtain ⟨r2, hr2, hrow2⟩ := HRb.out.2 k ds hds
      obtain rfl : r = r2 := by rw [hr1] at hr2; exact Option.some.inj hr2
      obtain ⟨ad, rfl, hrA⟩ := HA.out (by rw [HRa.out.1, ← HN.out]; omega)
      obtain ⟨bd, rfl, hrB⟩ := HB.out (by rw [HRb.out.1, ← HN.out]; omega)
      have hat := (hrA k cs hcs).2.chg HNw.out.drew id
      have hbt := (hrB k ds hds).2.chg HNw.out.drew id
      obtain ⟨A1, c1, rfl, a1, a2, a3, a4, a5⟩ := hrow.chg HNw.out.drew
      obtain ⟨B1, d1, rfl, b1, b2, b3, b4, b5⟩ := hrow2.chg HNw.out.drew
      have hcall := same_vals wr.drew A1 r.args.length c1 B1 r.args.length d1 r.args r.args rfl rfl (by omega) (by omega) a4 b4
      rw [decide_eq_true (rfl : r.args = r.args)] at hcall
      have x0 := hat 0 _ rfl
      have x1 := hat 1 _ rfl
      have x2 := hat 2 _ rfl
      have y0 := hbt 0 _ rfl
      have y1 := hbt 1 _ rfl
      have y2 := hbt 2 _ rfl
      rw [add_add, Nat.add_zero] at x0 y0
      rw [add_add, add_succ] at x1 x2 y1 y2
      have hAb : (ad.add (k * 3)).block = ad.block := add_block _ _
      have hAo : (ad.add (k * 3)).off + 1 = ad.off + (k * 3 + 1) := by rw [add_offs]; omega
      have hAp : (ad.add (k * 3)).off + 2 = ad.off + (k * 3 + 1 + 1) := by rw [add_offs]; omega
      have hBb : (bd.add (k * 3)).block = bd.block := add_block _ _
      have hBo : (bd.add (k * 3)).off + 1 = bd.off + (k * 3 + 1) := by rw [add_offs]; omega
      have hBp : (bd.add (k * 3)).off + 2 = bd.off + (k * 3 + 1 + 1) := by rw [add_offs]; omega
      have X0 := Lib.hid x0
      have X1 := Lib.hid x1
      have X2 := Lib.hid x2
      have Y0 := Lib.hid y0
      have Y1 := Lib.hid y1
      have Y2 := Lib.hid y2
      have Hcall := Lib.hid hcall
      have HNd := Lib.hid HNw.out.drew
      have hss : (r.name.toList != r.name.toList) = false := by simp
      have hii : (r.stamp != r.stamp) = false := by simp
      clear x0 x1 x2 y0 y1 y2 hcall hat hbt hcs hds hr1 hr2 hrow hrow2 hrA hrB a4 a5 b4 b5 a2 b2 a3 b3
      have q0 : (0 : Int) ≤ (k : Int) := by omega
      have q1 : (k : Int) < (n : Int) := by omega
      go_wp2_with fail
      refine wp_region_at (by kernel_rfl) ?_
      generalize wr.drew = wd at X0 X1 X2 Y0 Y1 Y2 Hcall HNd ⊢
      refine AtN.segQ2 0 12 (fun
        | 0 => .slice (some ad) n c
        | 1 => .int .i64 k
        | 2 => .pointer (some (ad.add (k * 3)))
        | 3 => .pointer (some (ad.add (k * 3)))
        | 4 => .string r.name
        | 5 => .slice (some bd) n d
        | 6 => .int .i64 k
        | 7 => .pointer (some (bd.add (k * 3)))
        | 8 => .pointer (some (bd.add (k * 3)))
        | 9 => .string r.name
        | 10 => .bool false
        | _ => .bool false)
        [(17, .slice (some ad) n c), (18, .int .i64 k), (19, .pointer (some (ad.add (k * 3)))), (20, .pointer (some (ad.add (k * 3)))), (21, .string r.name), (22, .slice (some bd) n d), (23, .int .i64 k), (24, .pointer (some (bd.add (k * 3)))), (25, .pointer (some (bd.add (k * 3)))), (26, .string r.name), (27, .bool false), (28, .bool false)] (by kernel_rfl) (by kernel_rfl) (by kernel_rfl) (by kernel_rfl) rfl (fun i hn hi o ho A0 hin hk => ?_) ?_
      · rcases (show i = 0 ∨ i = 1 ∨ i = 2 ∨ i = 3 ∨ i = 4 ∨ i = 5 ∨ i = 6 ∨ i = 7 ∨ i = 8 ∨ i = 9 ∨ i = 10 ∨ i = 11 by omega) with rfl | rfl | rfl | rfl | rfl | rfl | rfl | rfl | rfl | rfl | rfl | rfl
        · cases ho
          exact exec_move 0 _ rfl (hk 0 (by kernel_rfl))
        · cases ho
          exact exec_move 5 _ rfl (hk 5 (by kernel_rfl))
        · cases ho
          have h17 : A0.tmps[17]?.getD undef = .slice (some ad) n c := hin 0 17 (by kernel_rfl)
          have h18 : A0.tmps[18]?.getD undef = .int .i64 k := hin 1 18 (by kernel_rfl)
          exact by simp [go_sem, h17, h18, q0, q1, hlt]
        · cases ho
          have h19 : A0.tmps[19]?.getD undef = .pointer (some (ad.add (k * 3))) := hin 2 19 (by kernel_rfl)
          exact by simp [go_sem, h19]
        · cases ho
          have h20 : A0.tmps[20]?.getD undef = .pointer (some (ad.add (k * 3))) := hin 3 20 (by kernel_rfl)
          exact by simp [go_sem, h20, X0.out]
        · cases ho
          exact exec_move 1 _ rfl (hk 1 (by kernel_rfl))
        · cases ho
          exact exec_move 5 _ rfl (hk 5 (by kernel_rfl))
        · cases ho
          have h22 : A0.tmps[22]?.getD undef = .slice (some bd) n d := hin 5 22 (by kernel_rfl)
          have h23 : A0.tmps[23]?.getD undef = .int .i64 k := hin 6 23 (by kernel_rfl)
          exact by simp [go_sem, h22, h23, q0, q1, hlt]
        · cases ho
          have h24 : A0.tmps[24]?.getD undef = .pointer (some (bd.add (k * 3))) := hin 7 24 (by kernel_rfl)
          exact by simp [go_sem, h24]
        · cases ho
          have h25 : A0.tmps[25]?.getD undef = .pointer (some (bd.add (k * 3))) := hin 8 25 (by kernel_rfl)
          exact by simp [go_sem, h25, Y0.out]
        · cases ho
          have h21 : A0.tmps[21]?.getD undef = .string r.name := hin 4 21 (by kernel_rfl)
          have h26 : A0.tmps[26]?.getD undef = .string r.name := hin 9 26 (by kernel_rfl)
          exact by simp [go_sem, h21, h26]
        · cases ho
          exact exec_move 27 _ rfl (hin 10 27 (by kernel_rfl))
      simp only [putsL, Act.put, List.setIfInBounds_toArray, List.set_cons_succ, List.set_cons_zero]
      refine AtN.segQ2 12 25 (fun
        | 12 => .slice (some ad) n c
        | 13 => .int .i64 k
        | 14 => .pointer (some (ad.add (k * 3)))
        | 15 => .pointer (some ⟨ad.block, ad.off + (k * 3 + 1 + 1), none⟩)
        | 16 => .int .i64 r.stamp
        | 17 => .slice (some bd) n d
        | 18 => .int .i64 k
        | 19 => .pointer (some (bd.add (k * 3)))
        | 20 => .pointer (some ⟨bd.block, bd.off + (k * 3 + 1 + 1), none⟩)
        | 21 => .int .i64 r.stamp
        | 22 => .bool false
        | 23 => .bool false
        | _ => .bool false)
        [(29, .slice (some ad) n c), (30, .int .i64 k), (31, .pointer (some (ad.add (k * 3)))), (32, .pointer (some ⟨ad.block, ad.off + (k * 3 + 1 + 1), none⟩)), (33, .int .i64 r.stamp), (34, .slice (some bd) n d), (35, .int .i64 k), (36, .pointer (some (bd.add (k * 3)))), (37, .pointer (some ⟨bd.block, bd.off + (k * 3 + 1 + 1), none⟩)), (38, .int .i64 r.stamp), (39, .bool false), (40, .bool false), (41, .bool false)] (by kernel_rfl) (by kernel_rfl) (by kernel_rfl) (by kernel_rfl) rfl (fun i hn hi o ho A0 hin hk => ?_) ?_
      · rcases (show i = 12 ∨ i = 13 ∨ i = 14 ∨ i = 15 ∨ i = 16 ∨ i = 17 ∨ i = 18 ∨ i = 19 ∨ i = 20 ∨ i = 21 ∨ i = 22 ∨ i = 23 ∨ i = 24 by omega) with rfl | rfl | rfl | rfl | rfl | rfl | rfl | rfl | rfl | rfl | rfl | rfl | rfl
        · cases ho
          exact exec_move 0 _ rfl (hk 0 (by kernel_rfl))
        · cases ho
          exact exec_move 5 _ rfl (hk 5 (by kernel_rfl))
        · cases ho
          have h29 : A0.tmps[29]?.getD undef = .slice (some ad) n c := hin 12 29 (by kernel_rfl)
          have h30 : A0.tmps[30]?.getD undef = .int .i64 k := hin 13 30 (by kernel_rfl)
          exact by simp [go_sem, h29, h30, q0, q1, hlt]
        · cases ho
          have h31 : A0.tmps[31]?.getD undef = .pointer (some (ad.add (k * 3))) := hin 14 31 (by kernel_rfl)
          exact by simp [go_sem, h31, hAb, hAp]
        · cases ho
          have h32 : A0.tmps[32]?.getD undef = .pointer (some ⟨ad.block, ad.off + (k * 3 + 1 + 1), none⟩) := hin 15 32 (by kernel_rfl)
          exact by simp [go_sem, h32, X2.out]
        · cases ho
          exact exec_move 1 _ rfl (hk 1 (by kernel_rfl))
        · cases ho
          exact exec_move 5 _ rfl (hk 5 (by kernel_rfl))
        · cases ho
          have h34 : A0.tmps[34]?.getD undef = .slice (some bd) n d := hin 17 34 (by kernel_rfl)
          have h35 : A0.tmps[35]?.getD undef = .int .i64 k := hin 18 35 (by kernel_rfl)
          exact by simp [go_sem, h34, h35, q0, q1, hlt]
        · cases ho
          have h36 : A0.tmps[36]?.getD undef = .pointer (some (bd.add (k * 3))) := hin 19 36 (by kernel_rfl)
          exact by simp [go_sem, h36, hBb, hBp]
        · cases ho
          have h37 : A0.tmps[37]?.getD undef = .pointer (some ⟨bd.block, bd.off + (k * 3 + 1 + 1), none⟩) := hin 20 37 (by kernel_rfl)
          exact by simp [go_sem, h37, Y2.out]
        · cases ho
          have h33 : A0.tmps[33]?.getD undef = .int .i64 r.stamp := hin 16 33 (by kernel_rfl)
          have h38 : A0.tmps[38]?.getD undef = .int .i64 r.stamp := hin 21 38 (by kernel_rfl)
          exact by simp [go_sem, h33, h38]
        · cases ho
          have h28 : A0.tmps[28]?.getD undef = .bool false := hk 28 (by kernel_rfl)
          have h39 : A0.tmps[39]?.getD undef = .bool false := hin 22 39 (by kernel_rfl)
          exact by simp [go_sem, h28, h39]
        · cases ho
          exact exec_move 40 _ rfl (hin 23 40 (by kernel_rfl))
      simp only [putsL, Act.put, List.setIfInBounds_toArray, List.set_cons_succ, List.set_cons_zero]
      refine AtN.segQ2 25 35 (fun
        | 25 => .slice (some ad) n c
        | 26 => .int .i64 k
        | 27 => .pointer (some (ad.add (k * 3)))
        | 28 => .pointer (some ⟨ad.block, ad.off + (k * 3 + 1), none⟩)
        | 29 => .slice A1 r.args.length c1
        | 30 => .slice (some bd) n d
        | 31 => .int .i64 k
        | 32 => .pointer (some (bd.add (k * 3)))
        | 33 => .pointer (some ⟨bd.block, bd.off + (k * 3 + 1), none⟩)
        | _ => .slice B1 r.args.length d1)
        [(42, .slice (some ad) n c), (43, .int .i64 k), (44, .pointer (some (ad.add (k * 3)))), (45, .pointer (some ⟨ad.block, ad.off + (k * 3 + 1), none⟩)), (46, .slice A1 r.args.length c1), (47, .slice (some bd) n d), (48, .int .i64 k), (49, .pointer (some (bd.add (k * 3)))), (50, .pointer (some ⟨bd.block, bd.off + (k * 3 + 1), none⟩)), (51, .slice B1 r.args.length d1)] (by kernel_rfl) (by kernel_rfl) (by kernel_rfl) (by kernel_rfl) rfl (fun i hn hi o ho A0 hin hk => ?_) ?_
      · rcases (show i = 25 ∨ i = 26 ∨ i = 27 ∨ i = 28 ∨ i = 29 ∨ i = 30 ∨ i = 31 ∨ i = 32 ∨ i = 33 ∨ i = 34 by omega) with rfl | rfl | rfl | rfl | rfl | rfl | rfl | rfl | rfl | rfl
        · cases ho
          exact exec_move 0 _ rfl (hk 0 (by kernel_rfl))
        · cases ho
          exact exec_move 5 _ rfl (hk 5 (by kernel_rfl))
        · cases ho
          have h42 : A0.tmps[42]?.getD undef = .slice (some ad) n c := hin 25 42 (by kernel_rfl)
          have h43 : A0.tmps[43]?.getD undef = .int .i64 k := hin 26 43 (by kernel_rfl)
          exact by simp [go_sem, h42, h43, q0, q1, hlt]
        · cases ho
          have h44 : A0.tmps[44]?.getD undef = .pointer (some (ad.add (k * 3))) := hin 27 44 (by kernel_rfl)
          exact by simp [go_sem, h44, hAb, hAo]
        · cases ho
          have h45 : A0.tmps[45]?.getD undef = .pointer (some ⟨ad.block, ad.off + (k * 3 + 1), none⟩) := hin 28 45 (by kernel_rfl)
          exact by simp [go_sem, h45, X1.out]
        · cases ho
          exact exec_move 1 _ rfl (hk 1 (by kernel_rfl))
        · cases ho
          exact exec_move 5 _ rfl (hk 5 (by kernel_rfl))
        · cases ho
          have h47 : A0.tmps[47]?.getD undef = .slice (some bd) n d := hin 30 47 (by kernel_rfl)
          have h48 : A0.tmps[48]?.getD undef = .int .i64 k := hin 31 48 (by kernel_rfl)
          exact by simp [go_sem, h47, h48, q0, q1, hlt]
        · cases ho
          have h49 : A0.tmps[49]?.getD undef = .pointer (some (bd.add (k * 3))) := hin 32 49 (by kernel_rfl)
          exact by simp [go_sem, h49, hBb, hBo]
        · cases ho
          have h50 : A0.tmps[50]?.getD undef = .pointer (some ⟨bd.block, bd.off + (k * 3 + 1), none⟩) := hin 33 50 (by kernel_rfl)
          exact by simp [go_sem, h50, Y1.out]
      simp only [putsL, Act.put, List.setIfInBounds_toArray, List.set_cons_succ, List.set_cons_zero]
      refine AtN.list 35 38 (by kernel_rfl) ?_
      change wpList _ _ _ [_, _, _] _ _
      go_wp2_with fail
      refine Hcall.out.mono ?_
      rintro e3 W3 ⟨rfl, hN3⟩
      have HN3 := Lib.hid (HNd.out.trans hN3 (fun _ _ x => x))
      clear hN3 Hcall HNd
      go_wp2_with fail
      change AtN _ _ _ 38 _ _
      refine AtN.done rfl ?_
      go_wp2_with fail
      go_roundw
      case rel => exact ⟨k + 1, by omega, by go_num, HN3.out⟩
      case measure => simp only [intOf]; omega
    · go_wp2_with fail
      go_ret
      exact ⟨rfl, HNw.out⟩
end Go.Proofs.Ytfocjfnkcabbgaa
