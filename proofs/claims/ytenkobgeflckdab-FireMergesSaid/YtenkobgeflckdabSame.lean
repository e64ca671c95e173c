/- The laws' comparisons: values, lists of them, rows. -/
import Derived.Test.YtenkobgeflckdabCmpW
set_option linter.unusedVariables false
set_option linter.unusedSimpArgs false
namespace Go.Proofs.Ytenkobgeflckdab
open Go.RowKit Go.Shelf

theorem tl_eq' {a b : ByteArray} : a.toList = b.toList ↔ a = b := by
  rw [ByteArray.toList_eq, ByteArray.toList_eq]
  exact ⟨fun h => ByteArray.ext (Array.toList_inj.mp h), fun h => by rw [h]⟩

set_option maxHeartbeats 1000000 in
set_option maxRecDepth 100000 in
theorem vals_nil (w : World) : Calls Try.prog 24 #[.slice none 0 0, .slice none 0 0] w fun e w' => e = .returned (.bool true) ∧ w = w' := by
  go_enter Try.func24, Try.ntmps24
  go_wp2
  refine wp_loop_rounds 1 ?_
  rw [rounds_succ]
  go_wp2
  go_ret
  exact ⟨rfl, rfl⟩

set_option maxHeartbeats 4000000 in
set_option maxRecDepth 100000 in
theorem same_val (a b : Vl) (w : World) : Calls Try.prog 38 #[.agg #[.int .i64 a.k, .int .i64 a.i, .string a.t, .slice none 0 0], .agg #[.int .i64 b.k, .int .i64 b.i, .string b.t, .slice none 0 0]] w fun e w' => e = .returned (.bool (decide (a = b))) ∧ New w w' := by
  have hN : New w ((w.alloc (.cells #[.int .i64 a.k, .int .i64 a.i, .string a.t, .slice none 0 0] 46)).alloc (.cells #[.int .i64 b.k, .int .i64 b.i, .string b.t, .slice none 0 0] 46)) := ((Chg.refl w _).alloc _).alloc _
  obtain ⟨R, hR⟩ : ∃ R, decide (a = b) = R := ⟨_, rfl⟩
  rw [hR]
  obtain ⟨f1, h1⟩ : ∃ f, (a.k == b.k) = f := ⟨_, rfl⟩
  obtain ⟨f2, h2⟩ : ∃ f, (a.i == b.i) = f := ⟨_, rfl⟩
  obtain ⟨f3, h3⟩ : ∃ f, (a.t.toList == b.t.toList) = f := ⟨_, rfl⟩
  have hRf : R = (f1 && f2 && f3) := by
    rw [← hR, ← h1, ← h2, ← h3, Bool.eq_iff_iff]
    cases a; cases b
    simp [tl_eq', and_assoc]
  have hnil := Lib.hid (fun W => vals_nil W)
  have HN := Lib.hid hN
  have HR := Lib.hid hRf
  clear hN hR hRf
  cases f1 with
  | false =>
    have HR2 := Lib.hid (show false = R by rw [HR.out]; rfl)
    clear HR
    go_enter Try.func38, Try.ntmps38
    go_wp2_with fail
    go_ret
    exact ⟨congrArg (fun z => Ending.returned (.bool z)) HR2.out, HN.out⟩
  | true =>
    cases f2 with
    | false =>
      have HR2 := Lib.hid (show false = R by rw [HR.out]; rfl)
      clear HR
      go_enter Try.func38, Try.ntmps38
      go_wp2_with fail
      go_ret
      exact ⟨congrArg (fun z => Ending.returned (.bool z)) HR2.out, HN.out⟩
    | true =>
      cases f3 with
      | false =>
        have HR2 := Lib.hid (show false = R by rw [HR.out]; rfl)
        clear HR
        go_enter Try.func38, Try.ntmps38
        go_wp2_with fail
        go_ret
        exact ⟨congrArg (fun z => Ending.returned (.bool z)) HR2.out, HN.out⟩
      | true =>
        have HR2 := Lib.hid (show true = R by rw [HR.out]; rfl)
        clear HR
        go_enter Try.func38, Try.ntmps38
        go_wp2_with (refine (hnil.out _).mono ?_; rintro e w' ⟨rfl, rfl⟩)
        go_ret
        exact ⟨congrArg (fun z => Ending.returned (.bool z)) HR2.out, HN.out⟩

set_option maxHeartbeats 4000000 in
set_option maxRecDepth 100000 in
theorem same_vals (w : World) (A : Option Addr) (n c : Nat) (B : Option Addr) (m d : Nat) (us vs : List Vl) (hn : n = us.length) (hm : m = vs.length) (hnb : n ≤ 1000000) (hmb : m ≤ 1000000) (hA : SrcAt w A 4 (us.map vcs)) (hB : SrcAt w B 4 (vs.map vcs)) :
    Calls Try.prog 24 #[.slice A n c, .slice B m d] w fun e w' => e = .returned (.bool (decide (us = vs))) ∧ New w w' := by
  obtain ⟨R, hR⟩ : ∃ R, decide (us = vs) = R := ⟨_, rfl⟩
  rw [hR]
  by_cases hnm : n = m
  · subst hnm
    have hne : ((n : Int) != (n : Int)) = false := by simp
    have HA := Lib.hid hA
    have HB := Lib.hid hB
    have HN := Lib.hid hn
    have HM := Lib.hid hm
    have HR := Lib.hid hR
    clear hA hB hn hm hR
    go_enter Try.func24, Try.ntmps24
    go_wp2_with fail
    go_loopw [5] (fun u5 wr => ∃ k : Nat, k ≤ n ∧ u5 = .int .i64 k ∧ New w wr ∧ us.take k = vs.take k) (fun u _ => n - (intOf u).toNat)
    case atStart => exact ⟨0, Nat.zero_le _, rfl, Chg.refl _ _, rfl⟩
    case round =>
      obtain ⟨k, hkn, rfl, hN, ht⟩ := hrel
      have HNw := Lib.hid hN
      have Ht := Lib.hid ht
      clear hN ht
      by_cases hlt : k < n
      · obtain ⟨x, hx⟩ : ∃ x, us[k]? = some x := ⟨_, List.getElem?_eq_getElem (by rw [← HN.out]; exact hlt)⟩
        obtain ⟨y, hy⟩ : ∃ y, vs[k]? = some y := ⟨_, List.getElem?_eq_getElem (by rw [← HM.out]; exact hlt)⟩
        obtain ⟨ad, rfl, hrA⟩ := HA.out (by rw [List.length_map, ← HN.out]; omega)
        obtain ⟨bd, rfl, hrB⟩ := HB.out (by rw [List.length_map, ← HM.out]; omega)
        have hat := (hrA k (vcs x) (by rw [List.getElem?_map, hx]; rfl)).2.chg HNw.out.drew id
        have hbt := (hrB k (vcs y) (by rw [List.getElem?_map, hy]; rfl)).2.chg HNw.out.drew id
        obtain ⟨b, hb⟩ : ∃ b, decide (x = y) = b := ⟨_, rfl⟩
        have hcall := same_val x y wr.drew
        rw [hb] at hcall
        have Hat := Lib.hid hat
        have Hbt := Lib.hid hbt
        have Hx := Lib.hid hx
        have Hy := Lib.hid hy
        have Hb := Lib.hid hb
        have Hcall := Lib.hid hcall
        have HNd := Lib.hid HNw.out.drew
        clear hat hbt hx hy hrA hrB hb hcall
        have q0 : (0 : Int) ≤ (k : Int) := by omega
        have q1 : (k : Int) < (n : Int) := by omega
        go_wp2_with fail
        refine wp_region_at (by kernel_rfl) ?_
        generalize wr.drew = wd at Hat Hbt Hcall HNd ⊢
        refine AtN.segQ2 0 8 (fun
          | 0 => .slice (some ad) n c
          | 1 => .int .i64 k
          | 2 => .pointer (some (ad.add (k * 4)))
          | 3 => .agg #[.int .i64 x.k, .int .i64 x.i, .string x.t, .slice none 0 0]
          | 4 => .slice (some bd) n d
          | 5 => .int .i64 k
          | 6 => .pointer (some (bd.add (k * 4)))
          | _ => .agg #[.int .i64 y.k, .int .i64 y.i, .string y.t, .slice none 0 0])
          [(18, .slice (some ad) n c), (19, .int .i64 k), (20, .pointer (some (ad.add (k * 4)))), (21, .agg #[.int .i64 x.k, .int .i64 x.i, .string x.t, .slice none 0 0]), (22, .slice (some bd) n d), (23, .int .i64 k), (24, .pointer (some (bd.add (k * 4)))), (25, .agg #[.int .i64 y.k, .int .i64 y.i, .string y.t, .slice none 0 0])] (by kernel_rfl) (by kernel_rfl) (by kernel_rfl) (by kernel_rfl) rfl (fun i hn hi o ho A0 hin hk => ?_) ?_
        · rcases (show i = 0 ∨ i = 1 ∨ i = 2 ∨ i = 3 ∨ i = 4 ∨ i = 5 ∨ i = 6 ∨ i = 7 by omega) with rfl | rfl | rfl | rfl | rfl | rfl | rfl | rfl
          · cases ho
            exact exec_move 0 _ rfl (hk 0 (by kernel_rfl))
          · cases ho
            exact exec_move 5 _ rfl (hk 5 (by kernel_rfl))
          · cases ho
            have h18 : A0.tmps[18]?.getD undef = .slice (some ad) n c := hin 0 18 (by kernel_rfl)
            have h19 : A0.tmps[19]?.getD undef = .int .i64 k := hin 1 19 (by kernel_rfl)
            exact by simp [go_sem, h18, h19, q0, q1, hlt]
          · cases ho
            have h20 : A0.tmps[20]?.getD undef = .pointer (some (ad.add (k * 4))) := hin 2 20 (by kernel_rfl)
            exact exec_load 20 _ rfl stVal4 (ad.add (k * 4)) (vcs x) h20 rfl Hat.out
          · cases ho
            exact exec_move 1 _ rfl (hk 1 (by kernel_rfl))
          · cases ho
            exact exec_move 5 _ rfl (hk 5 (by kernel_rfl))
          · cases ho
            have h22 : A0.tmps[22]?.getD undef = .slice (some bd) n d := hin 4 22 (by kernel_rfl)
            have h23 : A0.tmps[23]?.getD undef = .int .i64 k := hin 5 23 (by kernel_rfl)
            exact by simp [go_sem, h22, h23, q0, q1, hlt]
          · cases ho
            have h24 : A0.tmps[24]?.getD undef = .pointer (some (bd.add (k * 4))) := hin 6 24 (by kernel_rfl)
            exact exec_load 24 _ rfl stVal4 (bd.add (k * 4)) (vcs y) h24 rfl Hbt.out
        simp only [putsL, Act.put, List.setIfInBounds_toArray, List.set_cons_succ, List.set_cons_zero]
        refine AtN.list 8 10 (by kernel_rfl) ?_
        change wpList _ _ _ [_, _] _ _
        go_wp2_with fail
        refine Hcall.out.mono ?_
        rintro e3 W3 ⟨rfl, hN3⟩
        have HN3 := Lib.hid (HNd.out.trans hN3 (fun _ _ x => x))
        clear hN3 Hcall HNd Hat Hbt
        cases b with
        | true =>
          have Ht2 := Lib.hid (show us.take (k + 1) = vs.take (k + 1) by rw [take_succ_get Hx.out, take_succ_get Hy.out, Ht.out, of_decide_eq_true Hb.out])
          go_wp2_with fail
          change AtN _ _ _ 10 _ _
          refine AtN.done rfl ?_
          go_wp2_with fail
          go_roundw
          case rel => exact ⟨k + 1, by omega, by go_num, HN3.out, Ht2.out⟩
          case measure => simp only [intOf]; omega
        | false =>
          have HR2 := Lib.hid (show false = R by
            rw [← HR.out]
            symm
            rw [decide_eq_false_iff_not]
            rintro rfl
            have h := Hx.out
            rw [Hy.out] at h
            exact of_decide_eq_false Hb.out (Option.some.inj h).symm)
          go_wp2_with fail
          change AtN _ _ _ 10 _ _
          refine AtN.done rfl ?_
          go_wp2_with fail
          go_ret
          exact ⟨congrArg (fun z => Ending.returned (.bool z)) HR2.out, HN3.out⟩
      · have HR2 := Lib.hid (show true = R by
          have h := Ht.out
          rw [show us.take k = us from List.take_of_length_le (by rw [← HN.out]; omega), show vs.take k = vs from List.take_of_length_le (by rw [← HM.out]; omega)] at h
          rw [← HR.out, h]; simp)
        go_wp2_with fail
        go_ret
        exact ⟨congrArg (fun z => Ending.returned (.bool z)) HR2.out, HNw.out⟩
  · have hne : ((n : Int) != (m : Int)) = true := by simp; omega
    have hne2 : ((n : Int) == (m : Int)) = false := by rw [beq_eq_false_iff_ne]; omega
    have HR2 := Lib.hid (show false = R by
      rw [← hR]
      symm
      rw [decide_eq_false_iff_not]
      rintro rfl
      omega)
    clear hR hn hm hA hB hnm
    go_enter Try.func24, Try.ntmps24
    go_wp2_with fail
    go_ret
    exact ⟨congrArg (fun z => Ending.returned (.bool z)) HR2.out, Chg.refl _ _⟩
end Go.Proofs.Ytenkobgeflckdab
