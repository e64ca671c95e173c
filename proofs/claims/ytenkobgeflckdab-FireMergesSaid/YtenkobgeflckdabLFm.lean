/- FireMerges: the walk. -/
import Derived.Test.YtenkobgeflckdabLFmP
import Derived.Test.YtenkobgeflckdabAwk10
set_option linter.unusedVariables false
set_option linter.unusedSimpArgs false
namespace Go.Proofs.Ytenkobgeflckdab
open Go.RowKit Go.Shelf

set_option maxHeartbeats 8000000 in
set_option maxRecDepth 100000 in
theorem walk_FireMerges (w : World) (v : Value) (n : Nat) (X : Nat → Int) (hx : IntsAt w v 6 n X) : Calls Try.prog 3 #[v] w fun e w' => e = .returned (.bool true) ∧ New w w' := by
  have HX := Lib.hid hx
  clear hx
  have eg9 : ∀ (args : Array Value) (w : World), (callFunc 9 args).run Try.prog w = .ok (.enter 9 args) w := enters_of Try.func9 (by kernel_rfl) rfl
  have eg10 : ∀ (args : Array Value) (w : World), (callFunc 10 args).run Try.prog w = .ok (.enter 10 args) w := enters_of Try.func10 (by kernel_rfl) rfl
  go_enter Try.func3, Try.ntmps3
  go_wp2_with first
    | (go_at_call 6; refine (awake10 _).mono ?_; rintro e w1 ⟨rfl, hN1⟩; have HN1 := Lib.hid hN1; clear hN1)
    | (go_at_call 7; refine (rows_sl _ _ _ _ (HX.out.chg HN1.out)).mono ?_; rintro e w2 ⟨x4, rs, rfl, hsl4, h40, hg, hN2⟩; obtain ⟨A4, c4, rfl, hl4⟩ := hsl4.form; have HS4 := Lib.hid hsl4; have HG := Lib.hid hg; have H40 := Lib.hid h40; have HN2 := Lib.hid (HN1.out.trans hN2 (fun _ _ x => x)); clear hsl4 h40 hg hN2)
    | (go_at_call 8; refine (merge_sl _ _ _ HS4.out).mono ?_; rintro e wb ⟨x5, m, rfl, hm, hsl5, hN3⟩; obtain ⟨A5, c5, rfl, hl5⟩ := hsl5.form; have HS5 := Lib.hid hsl5; have HM := Lib.hid hm; have HS4b := Lib.hid (HS4.out.chg hN3); have HNb := Lib.hid (HN2.out.trans hN3 (fun _ _ x => x)); clear hsl5 hm hN3)
  clear HX HN1 HN2 HS4
  have hcan : ∀ r ∈ rs, canonR r := fun r hr => (HG.out r hr).can
  have hst0 : ∀ r ∈ rs, 0 ≤ r.stamp := fun r hr => (HG.out r hr).st0
  have HCan := Lib.hid hcan
  have HSt0 := Lib.hid hst0
  clear hcan hst0
  obtain ⟨nr, hnr⟩ : ∃ nr, rs.length = nr := ⟨_, rfl⟩
  obtain ⟨nm, hnm⟩ : ∃ nm, m.length = nm := ⟨_, rfl⟩
  rw [hnr, hnm]
  rw [hnr] at hl4
  rw [hnm] at hl5
  have Hnr := Lib.hid hnr
  have Hnm := Lib.hid hnm
  clear hnr hnm
  go_loopw [6] (fun u6 wr => ∃ i : Nat, i ≤ nm ∧ u6 = .int .i64 i ∧ New wb wr) (fun u _ => nm - (intOf u).toNat)
  case atStart => exact ⟨0, Nat.zero_le _, rfl, Chg.refl _ _⟩
  case round =>
    obtain ⟨i, hi, rfl, hNr⟩ := hrel
    have HNr := Lib.hid hNr
    clear hNr
    by_cases hlt : i < nm
    · obtain ⟨x, hx⟩ : ∃ x, m[i]? = some x := ⟨_, List.getElem?_eq_getElem (by rw [Hnm.out]; exact hlt)⟩
      have hS5 := HS5.out.chg HNr.out
      have hS5' := hS5
      rw [Hnm.out] at hS5'
      obtain ⟨ax, csx, rfl, hatx, hlx, hrowx⟩ := hS5'.row hx
      obtain ⟨Axx, cxx, hcsx, _⟩ := id hrowx
      have hstx := hatx 2 (.int .i64 x.stamp) (by rw [hcsx]; rfl)
      rw [add_succ] at hstx
      have hxm := List.mem_of_getElem? hx
      have HAtx := Lib.hid hatx
      have HLx := Lib.hid hlx
      have HRowx := Lib.hid hrowx
      have HStx := Lib.hid hstx
      have HXm := Lib.hid hxm
      have Hx := Lib.hid hx
      clear hS5 hS5' hatx hlx hrowx hcsx hstx hxm hx
      obtain ⟨wo, hwo⟩ : ∃ wo, wo = wr := ⟨_, rfl⟩
      subst hwo
      have p0 : (0 : Int) ≤ (i : Int) := by omega
      have p1 : (i : Int) < (nm : Int) := by omega
      go_upto_region 7 with fail
      refine wp_region_at (by kernel_rfl) ?_
      have hnd : New wo wo.drew := (Chg.refl _ _).drew
      have DN := Lib.hid hnd
      clear hnd
      generalize wo.drew = wd at DN ⊢
      by_cases hi0 : i = 0
      · have hz : decide ((0 : Int) < (i : Int)) = false := by simp; omega
        have hz' : decide (0 < i) = false := by simp; omega
        clear hi0
        refine AtN.segQ2 0 3 (fun
          | 0 => .int .i64 i
          | 1 => .bool false
          | _ => .bool false)
          [(21, .int .i64 i), (22, .bool false), (23, .bool false)] (by kernel_rfl) (by kernel_rfl) (by kernel_rfl) (by kernel_rfl) rfl (fun i hn hi o ho A0 hin hk => ?_) ?_
        · rcases (show i = 0 ∨ i = 1 ∨ i = 2 by omega) with rfl | rfl | rfl
          · cases ho
            exact exec_move 6 _ rfl (hk 6 (by kernel_rfl))
          · cases ho
            have h21 : A0.tmps[21]?.getD undef = .int .i64 i := hin 0 21 (by kernel_rfl)
            exact by simp [go_sem, h21, hz, hz']
          · cases ho
            exact exec_move 22 _ rfl (hin 1 22 (by kernel_rfl))
        simp only [putsL, Act.put, List.setIfInBounds_toArray, List.set_cons_succ, List.set_cons_zero]
        refine AtN.segS2 3 14 [(24, undef), (25, undef), (26, undef), (27, undef), (28, undef), (29, undef), (30, undef), (31, undef), (32, undef), (33, undef), (34, undef)] (by kernel_rfl) (by kernel_rfl) (by kernel_rfl) (by kernel_rfl) rfl ?_
        simp only [putsL, Act.put, List.setIfInBounds_toArray, List.set_cons_succ, List.set_cons_zero]
        refine AtN.segQ2 14 15 (fun _ => .bool false)
          [(35, .bool false)] (by kernel_rfl) (by kernel_rfl) (by kernel_rfl) (by kernel_rfl) rfl (fun i hn hi o ho A0 hin hk => ?_) ?_
        · obtain rfl : i = 14 := by omega
          cases ho
          have h23 : A0.tmps[23]?.getD undef = .bool false := hk 23 (by kernel_rfl)
          have h34 : A0.tmps[34]?.getD undef = undef := hk 34 (by kernel_rfl)
          exact by simp [go_sem, h23, h34]
        simp only [putsL, Act.put, List.setIfInBounds_toArray, List.set_cons_succ, List.set_cons_zero]
        refine AtN.done rfl ?_
        go_wp2_with fail
        go_loopw [7, 8] (fun u7 u8 wq => ∃ k : Nat, k ≤ nr ∧ u8 = .int .i64 k ∧ u7 = .int .i64 (bestOf (rs.take k) x) ∧ New wo wq) (fun _ u _ => nr - (intOf u).toNat)
        case atStart => exact ⟨0, Nat.zero_le _, rfl, rfl, DN.out⟩
        case round =>
          obtain ⟨k, hk, rfl, rfl, hNq⟩ := hrel
          have HNq := Lib.hid hNq
          clear hNq
          by_cases hlk : k < nr
          · obtain ⟨y, hy⟩ : ∃ y, rs[k]? = some y := ⟨_, List.getElem?_eq_getElem (by rw [Hnr.out]; exact hlk)⟩
            have hS4 := HS4b.out.chg (HNr.out.trans HNq.out (fun _ _ x => x))
            rw [Hnr.out] at hS4
            obtain ⟨ay, csy, rfl, haty, hly, hrowy⟩ := hS4.row hy
            obtain ⟨Ayy, cyy, hcsy, _⟩ := id hrowy
            have hsty := haty 2 (.int .i64 y.stamp) (by rw [hcsy]; rfl)
            rw [add_succ] at hsty
            have HAty := Lib.hid haty
            have HLy := Lib.hid hly
            have HRowy := Lib.hid hrowy
            have HSty := Lib.hid hsty
            have Hy := Lib.hid hy
            clear hS4 haty hly hrowy hcsy hsty hy
            have k0 : (0 : Int) ≤ (k : Int) := by omega
            have k1 : (k : Int) < (nr : Int) := by omega
            go_upto_region 13 with fail
            refine wp_region_at (by kernel_rfl) ?_
            have hqd : New wo wr.drew := HNq.out.drew
            have QN := Lib.hid hqd
            have QAx := Lib.hid (HAtx.out.chg hqd id)
            have QRx := Lib.hid (HRowx.out.chg hqd)
            have hq2 : New wr wr.drew := (Chg.refl _ _).drew
            have QAy := Lib.hid (HAty.out.chg hq2 id)
            have QRy := Lib.hid (HRowy.out.chg hq2)
            have QSy := Lib.hid (hq2.cellS HSty.out id)
            clear hqd hq2
            generalize wr.drew = we at QN QAx QRx QAy QRy QSy ⊢
            obtain ⟨q, hq⟩ : ∃ q, cmpR y x = q := ⟨_, rfl⟩
            obtain ⟨bq, hbq⟩ : ∃ b, (q == 0) = b := ⟨_, rfl⟩
            have Hq := Lib.hid hq
            have Hbq := Lib.hid hbq
            clear hq
            refine AtN.segN2 0 10 [42, 43, 44, 45, 46, 47, 48, 49, 50, 51] (fun
              | 0 => fun v _ => v = .slice (some ay) nr c4
              | 1 => fun v _ => v = .int .i64 k
              | 2 => fun v _ => v = .pointer (some (ay.add (k * 3)))
              | 3 => fun v _ => v = .agg csy.toArray
              | 4 => fun v _ => v = .slice (some ax) nm c5
              | 5 => fun v _ => v = .int .i64 i
              | 6 => fun v _ => v = .pointer (some (ax.add (i * 3)))
              | 7 => fun v _ => v = .agg csx.toArray
              | 8 => fun v _ => v = .int .i64 q
              | 9 => fun v _ => v = .bool bq
              | _ => fun _ _ => True) (by kernel_rfl) (by kernel_rfl) (by kernel_rfl) (by kernel_rfl) (fun j v w1 w2 hc h => ?_) (fun i hn hi o ho A0 W hN hin hk => ?_) (fun l Wf hN hl hΦ => ?_)
            · match j with
              | 0 | 1 | 2 | 3 | 4 | 5 | 6 | 7 | 8 | 9 => exact h
              | _ + 10 => trivial
            · rcases (show i = 0 ∨ i = 1 ∨ i = 2 ∨ i = 3 ∨ i = 4 ∨ i = 5 ∨ i = 6 ∨ i = 7 ∨ i = 8 ∨ i = 9 by omega) with rfl | rfl | rfl | rfl | rfl | rfl | rfl | rfl | rfl | rfl
              · cases ho
                exact .same (exec_move 4 _ rfl (hk 4 (by kernel_rfl))) rfl
              · cases ho
                exact .same (exec_move 8 _ rfl (hk 8 (by kernel_rfl))) rfl
              · cases ho
                have h42 : A0.tmps[42]?.getD undef = .slice (some ay) nr c4 := hin 0 42 (by kernel_rfl)
                have h43 : A0.tmps[43]?.getD undef = .int .i64 k := hin 1 43 (by kernel_rfl)
                exact .same (by simp [go_sem, h42, h43, k0, k1, hlk]) rfl
              · cases ho
                have h44 : A0.tmps[44]?.getD undef = .pointer (some (ay.add (k * 3))) := hin 2 44 (by kernel_rfl)
                exact .same (exec_load 44 _ rfl stRow (ay.add (k * 3)) csy h44 HLy.out (QAy.out.chg hN id)) rfl
              · cases ho
                exact .same (exec_move 5 _ rfl (hk 5 (by kernel_rfl))) rfl
              · cases ho
                exact .same (exec_move 6 _ rfl (hk 6 (by kernel_rfl))) rfl
              · cases ho
                have h46 : A0.tmps[46]?.getD undef = .slice (some ax) nm c5 := hin 4 46 (by kernel_rfl)
                have h47 : A0.tmps[47]?.getD undef = .int .i64 i := hin 5 47 (by kernel_rfl)
                exact .same (by simp [go_sem, h46, h47, p0, p1, hlt]) rfl
              · cases ho
                have h48 : A0.tmps[48]?.getD undef = .pointer (some (ax.add (i * 3))) := hin 6 48 (by kernel_rfl)
                exact .same (exec_load 48 _ rfl stRow (ax.add (i * 3)) csx h48 HLx.out (QAx.out.chg hN id)) rfl
              · cases ho
                have h45 : A0.tmps[45]?.getD undef = .agg csy.toArray := hin 3 45 (by kernel_rfl)
                have h49 : A0.tmps[49]?.getD undef = .agg csx.toArray := hin 7 49 (by kernel_rfl)
                refine .call (f := 9) (args := #[.agg csy.toArray, .agg csx.toArray]) (W' := W) ?_ ((cmp_row W csy csx y x (QRy.out.chg hN) (QRx.out.chg hN)).mono ?_)
                · simp [go_sem, h45, h49, eg9]
                · rintro e w' ⟨rfl, hc⟩
                  exact ⟨_, rfl, hc, by rw [Hq.out]; rfl⟩
              · cases ho
                have h50 : A0.tmps[50]?.getD undef = .int .i64 q := hin 8 50 (by kernel_rfl)
                exact .same (by simp [go_sem, h50, hbq]) rfl
            obtain ⟨x42, x43, x44, x45, x46, x47, x48, x49, x50, x51, rfl⟩ : ∃ x42 x43 x44 x45 x46 x47 x48 x49 x50 x51, l = [x42, x43, x44, x45, x46, x47, x48, x49, x50, x51] := by
              match l, hl with
              | [x42, x43, x44, x45, x46, x47, x48, x49, x50, x51], _ => exact ⟨_, _, _, _, _, _, _, _, _, _, rfl⟩
            obtain rfl : x42 = .slice (some ay) nr c4 := hΦ 0 (by decide)
            obtain rfl : x43 = .int .i64 k := hΦ 1 (by decide)
            obtain rfl : x44 = .pointer (some (ay.add (k * 3))) := hΦ 2 (by decide)
            obtain rfl : x45 = .agg csy.toArray := hΦ 3 (by decide)
            obtain rfl : x46 = .slice (some ax) nm c5 := hΦ 4 (by decide)
            obtain rfl : x47 = .int .i64 i := hΦ 5 (by decide)
            obtain rfl : x48 = .pointer (some (ax.add (i * 3))) := hΦ 6 (by decide)
            obtain rfl : x49 = .agg csx.toArray := hΦ 7 (by decide)
            obtain rfl : x50 = .int .i64 q := hΦ 8 (by decide)
            obtain rfl : x51 = .bool bq := hΦ 9 (by decide)
            simp only [putsL, List.zip_cons_cons, List.zip_nil_left, List.zip_nil_right, List.zip, List.zipWith, Act.put, List.setIfInBounds_toArray, List.set_cons_succ, List.set_cons_zero]
            clear hΦ hl
            have RN := Lib.hid (QN.out.trans hN (fun _ _ x => x))
            have c56 := hN.cellS QSy.out id
            refine AtN.done rfl ?_
            clear hN QN QAx QRx QAy QRy QSy
            have hbs := bestOf_snoc (rs.take k) x y
            rw [← take_succ_get Hy.out, Hq.out] at hbs
            have Hbs := Lib.hid hbs
            clear hbs
            cases bq with
            | true =>
              have hq0 : q = 0 := by simpa using Hbq.out
              go_wp2_with fail
              all_goals
                go_roundw
                case rel =>
                  refine ⟨k + 1, by omega, by go_num, ?_, RN.out⟩
                  rw [Hbs.out, if_pos hq0]
                  congr 1
                  omega
                case measure => simp [intOf]; omega
            | false =>
              have hq0 : ¬ q = 0 := by simpa using Hbq.out
              go_wp2_with fail
              go_roundw
              case rel => exact ⟨k + 1, by omega, by go_num, by rw [Hbs.out, if_neg hq0], RN.out⟩
              case measure => simp [intOf]; omega
          · have hbest : bestOf (rs.take k) x = x.stamp := by
              rw [List.take_of_length_le (by rw [Hnr.out]; omega)]
              exact best_is HM.out HSt0.out HXm.out
            rw [hbest]
            have cx2 := HNq.out.cellS HStx.out id
            have HNr2 := Lib.hid (HNr.out.trans HNq.out (fun _ _ x => x))
            go_wp2_with fail
            go_roundw
            case rel => exact ⟨i + 1, by omega, by go_num, HNr2.out⟩
            case measure => simp [intOf]; omega
      · obtain ⟨j, hj⟩ : ∃ j, i = j + 1 := ⟨i - 1, by omega⟩
        have hz : decide ((0 : Int) < (i : Int)) = true := by simp; omega
        have hz' : decide (0 < i) = true := by simp; omega
        have hsub : (i : Int) - 1 = (j : Int) := by omega
        have hjn : j < nm := by omega
        have j0 : (0 : Int) ≤ (j : Int) := by omega
        have j1 : (j : Int) < (nm : Int) := by omega
        have hwj : IntKind.i64.wrap (j : Int) = j := by rw [IntKind.wrap_i64]; omega
        obtain ⟨y, hy⟩ : ∃ y, m[j]? = some y := ⟨_, List.getElem?_eq_getElem (by rw [Hnm.out]; exact hjn)⟩
        have hcmp : cmpR y x = -1 := by
          obtain ⟨h1, e1⟩ := List.getElem?_eq_some_iff.1 hy
          obtain ⟨h2, e2⟩ := List.getElem?_eq_some_iff.1 Hx.out
          have := List.pairwise_iff_getElem.1 HM.out.up j i h1 h2 (by omega)
          rw [e1, e2] at this
          exact sg_row _ _ this
        have hS5 := HS5.out.chg (HNr.out.trans DN.out (fun _ _ x => x))
        rw [Hnm.out] at hS5
        obtain ⟨ay, csy, hay, haty, hly, hrowy⟩ := hS5.row hy
        obtain rfl := Option.some.inj hay
        have QAy := Lib.hid haty
        have HLy := Lib.hid hly
        have QRy := Lib.hid hrowy
        have QAx := Lib.hid (HAtx.out.chg DN.out id)
        have QRx := Lib.hid (HRowx.out.chg DN.out)
        have HCmp := Lib.hid hcmp
        clear hS5 haty hly hrowy hy hay hcmp hj hi0
        refine AtN.segQ2 0 3 (fun
          | 0 => .int .i64 i
          | 1 => .bool true
          | _ => .bool true)
          [(21, .int .i64 i), (22, .bool true), (23, .bool true)] (by kernel_rfl) (by kernel_rfl) (by kernel_rfl) (by kernel_rfl) rfl (fun i hn hi o ho A0 hin hk => ?_) ?_
        · rcases (show i = 0 ∨ i = 1 ∨ i = 2 by omega) with rfl | rfl | rfl
          · cases ho
            exact exec_move 6 _ rfl (hk 6 (by kernel_rfl))
          · cases ho
            have h21 : A0.tmps[21]?.getD undef = .int .i64 i := hin 0 21 (by kernel_rfl)
            exact by simp [go_sem, h21, hz, hz']
          · cases ho
            exact exec_move 22 _ rfl (hin 1 22 (by kernel_rfl))
        simp only [putsL, Act.put, List.setIfInBounds_toArray, List.set_cons_succ, List.set_cons_zero]
        refine AtN.segN2 3 15 [24, 25, 26, 27, 28, 29, 30, 31, 32, 33, 34, 35] (fun
          | 3 => fun v _ => v = .slice (some ax) nm c5
          | 4 => fun v _ => v = .int .i64 i
          | 5 => fun v _ => v = .int .i64 j
          | 6 => fun v _ => v = .pointer (some (ax.add (j * 3)))
          | 7 => fun v _ => v = .agg csy.toArray
          | 8 => fun v _ => v = .slice (some ax) nm c5
          | 9 => fun v _ => v = .int .i64 i
          | 10 => fun v _ => v = .pointer (some (ax.add (i * 3)))
          | 11 => fun v _ => v = .agg csx.toArray
          | 12 => fun v _ => v = .int .i64 (-1)
          | 13 => fun v _ => v = .bool false
          | 14 => fun v _ => v = .bool false
          | _ => fun _ _ => True) (by kernel_rfl) (by kernel_rfl) (by kernel_rfl) (by kernel_rfl) (fun j v w1 w2 hc h => ?_) (fun i hn hi o ho A0 W hN hin hk => ?_) (fun l Wg hN hl hΦ => ?_)
        · match j with
          | 3 | 4 | 5 | 6 | 7 | 8 | 9 | 10 | 11 | 12 | 13 | 14 => exact h
          | 0 | 1 | 2 => trivial
          | _ + 15 => trivial
        · rcases (show i = 3 ∨ i = 4 ∨ i = 5 ∨ i = 6 ∨ i = 7 ∨ i = 8 ∨ i = 9 ∨ i = 10 ∨ i = 11 ∨ i = 12 ∨ i = 13 ∨ i = 14 by omega) with rfl | rfl | rfl | rfl | rfl | rfl | rfl | rfl | rfl | rfl | rfl | rfl
          · cases ho
            exact .same (exec_move 5 _ rfl (hk 5 (by kernel_rfl))) rfl
          · cases ho
            exact .same (exec_move 6 _ rfl (hk 6 (by kernel_rfl))) rfl
          · cases ho
            have h25 : A0.tmps[25]?.getD undef = .int .i64 i := hin 4 25 (by kernel_rfl)
            exact .same (by simp [go_sem, h25, hsub, hwj]) rfl
          · cases ho
            have h24 : A0.tmps[24]?.getD undef = .slice (some ax) nm c5 := hin 3 24 (by kernel_rfl)
            have h26 : A0.tmps[26]?.getD undef = .int .i64 j := hin 5 26 (by kernel_rfl)
            exact .same (by simp [go_sem, h24, h26, j0, j1, hjn]) rfl
          · cases ho
            have h27 : A0.tmps[27]?.getD undef = .pointer (some (ax.add (j * 3))) := hin 6 27 (by kernel_rfl)
            exact .same (exec_load 27 _ rfl stRow (ax.add (j * 3)) csy h27 HLy.out (QAy.out.chg hN id)) rfl
          · cases ho
            exact .same (exec_move 5 _ rfl (hk 5 (by kernel_rfl))) rfl
          · cases ho
            exact .same (exec_move 6 _ rfl (hk 6 (by kernel_rfl))) rfl
          · cases ho
            have h29 : A0.tmps[29]?.getD undef = .slice (some ax) nm c5 := hin 8 29 (by kernel_rfl)
            have h30 : A0.tmps[30]?.getD undef = .int .i64 i := hin 9 30 (by kernel_rfl)
            exact .same (by simp [go_sem, h29, h30, p0, p1, hlt]) rfl
          · cases ho
            have h31 : A0.tmps[31]?.getD undef = .pointer (some (ax.add (i * 3))) := hin 10 31 (by kernel_rfl)
            exact .same (exec_load 31 _ rfl stRow (ax.add (i * 3)) csx h31 HLx.out (QAx.out.chg hN id)) rfl
          · cases ho
            have h28 : A0.tmps[28]?.getD undef = .agg csy.toArray := hin 7 28 (by kernel_rfl)
            have h32 : A0.tmps[32]?.getD undef = .agg csx.toArray := hin 11 32 (by kernel_rfl)
            refine .call (f := 9) (args := #[.agg csy.toArray, .agg csx.toArray]) (W' := W) ?_ ((cmp_row W csy csx y x (QRy.out.chg hN) (QRx.out.chg hN)).mono ?_)
            · simp [go_sem, h28, h32, eg9]
            · rintro e w' ⟨rfl, hc⟩
              exact ⟨_, rfl, hc, by rw [HCmp.out]; rfl⟩
          · cases ho
            have h33 : A0.tmps[33]?.getD undef = .int .i64 (-1) := hin 12 33 (by kernel_rfl)
            exact .same (by simp [go_sem, h33]) rfl
          · cases ho
            have h23 : A0.tmps[23]?.getD undef = .bool true := hk 23 (by kernel_rfl)
            have h34 : A0.tmps[34]?.getD undef = .bool false := hin 13 34 (by kernel_rfl)
            exact .same (by simp [go_sem, h23, h34]) rfl
        obtain ⟨x24, x25, x26, x27, x28, x29, x30, x31, x32, x33, x34, x35, rfl⟩ : ∃ x24 x25 x26 x27 x28 x29 x30 x31 x32 x33 x34 x35, l = [x24, x25, x26, x27, x28, x29, x30, x31, x32, x33, x34, x35] := by
          match l, hl with
          | [x24, x25, x26, x27, x28, x29, x30, x31, x32, x33, x34, x35], _ => exact ⟨_, _, _, _, _, _, _, _, _, _, _, _, rfl⟩
        obtain rfl : x24 = .slice (some ax) nm c5 := hΦ 0 (by decide)
        obtain rfl : x25 = .int .i64 i := hΦ 1 (by decide)
        obtain rfl : x26 = .int .i64 j := hΦ 2 (by decide)
        obtain rfl : x27 = .pointer (some (ax.add (j * 3))) := hΦ 3 (by decide)
        obtain rfl : x28 = .agg csy.toArray := hΦ 4 (by decide)
        obtain rfl : x29 = .slice (some ax) nm c5 := hΦ 5 (by decide)
        obtain rfl : x30 = .int .i64 i := hΦ 6 (by decide)
        obtain rfl : x31 = .pointer (some (ax.add (i * 3))) := hΦ 7 (by decide)
        obtain rfl : x32 = .agg csx.toArray := hΦ 8 (by decide)
        obtain rfl : x33 = .int .i64 (-1) := hΦ 9 (by decide)
        obtain rfl : x34 = .bool false := hΦ 10 (by decide)
        obtain rfl : x35 = .bool false := hΦ 11 (by decide)
        simp only [putsL, List.zip_cons_cons, List.zip_nil_left, List.zip_nil_right, List.zip, List.zipWith, Act.put, List.setIfInBounds_toArray, List.set_cons_succ, List.set_cons_zero]
        clear hΦ hl
        have EN := Lib.hid (DN.out.trans hN (fun _ _ x => x))
        clear hN QAy QRy QAx QRx
        refine AtN.done rfl ?_
        go_wp2_with fail
        go_loopw [7, 8] (fun u7 u8 wq => ∃ k : Nat, k ≤ nr ∧ u8 = .int .i64 k ∧ u7 = .int .i64 (bestOf (rs.take k) x) ∧ New wo wq) (fun _ u _ => nr - (intOf u).toNat)
        case atStart => exact ⟨0, Nat.zero_le _, rfl, rfl, EN.out⟩
        case round =>
          obtain ⟨k, hk, rfl, rfl, hNq⟩ := hrel
          have HNq := Lib.hid hNq
          clear hNq
          by_cases hlk : k < nr
          · obtain ⟨y, hy⟩ : ∃ y, rs[k]? = some y := ⟨_, List.getElem?_eq_getElem (by rw [Hnr.out]; exact hlk)⟩
            have hS4 := HS4b.out.chg (HNr.out.trans HNq.out (fun _ _ x => x))
            rw [Hnr.out] at hS4
            obtain ⟨ay, csy, rfl, haty, hly, hrowy⟩ := hS4.row hy
            obtain ⟨Ayy, cyy, hcsy, _⟩ := id hrowy
            have hsty := haty 2 (.int .i64 y.stamp) (by rw [hcsy]; rfl)
            rw [add_succ] at hsty
            have HAty := Lib.hid haty
            have HLy := Lib.hid hly
            have HRowy := Lib.hid hrowy
            have HSty := Lib.hid hsty
            have Hy := Lib.hid hy
            clear hS4 haty hly hrowy hcsy hsty hy
            have k0 : (0 : Int) ≤ (k : Int) := by omega
            have k1 : (k : Int) < (nr : Int) := by omega
            go_upto_region 13 with fail
            refine wp_region_at (by kernel_rfl) ?_
            have hqd : New wo wr.drew := HNq.out.drew
            have QN := Lib.hid hqd
            have QAx := Lib.hid (HAtx.out.chg hqd id)
            have QRx := Lib.hid (HRowx.out.chg hqd)
            have hq2 : New wr wr.drew := (Chg.refl _ _).drew
            have QAy := Lib.hid (HAty.out.chg hq2 id)
            have QRy := Lib.hid (HRowy.out.chg hq2)
            have QSy := Lib.hid (hq2.cellS HSty.out id)
            clear hqd hq2
            generalize wr.drew = we at QN QAx QRx QAy QRy QSy ⊢
            obtain ⟨q, hq⟩ : ∃ q, cmpR y x = q := ⟨_, rfl⟩
            obtain ⟨bq, hbq⟩ : ∃ b, (q == 0) = b := ⟨_, rfl⟩
            have Hq := Lib.hid hq
            have Hbq := Lib.hid hbq
            clear hq
            refine AtN.segN2 0 10 [42, 43, 44, 45, 46, 47, 48, 49, 50, 51] (fun
              | 0 => fun v _ => v = .slice (some ay) nr c4
              | 1 => fun v _ => v = .int .i64 k
              | 2 => fun v _ => v = .pointer (some (ay.add (k * 3)))
              | 3 => fun v _ => v = .agg csy.toArray
              | 4 => fun v _ => v = .slice (some ax) nm c5
              | 5 => fun v _ => v = .int .i64 i
              | 6 => fun v _ => v = .pointer (some (ax.add (i * 3)))
              | 7 => fun v _ => v = .agg csx.toArray
              | 8 => fun v _ => v = .int .i64 q
              | 9 => fun v _ => v = .bool bq
              | _ => fun _ _ => True) (by kernel_rfl) (by kernel_rfl) (by kernel_rfl) (by kernel_rfl) (fun j v w1 w2 hc h => ?_) (fun i hn hi o ho A0 W hN hin hk => ?_) (fun l Wf hN hl hΦ => ?_)
            · match j with
              | 0 | 1 | 2 | 3 | 4 | 5 | 6 | 7 | 8 | 9 => exact h
              | _ + 10 => trivial
            · rcases (show i = 0 ∨ i = 1 ∨ i = 2 ∨ i = 3 ∨ i = 4 ∨ i = 5 ∨ i = 6 ∨ i = 7 ∨ i = 8 ∨ i = 9 by omega) with rfl | rfl | rfl | rfl | rfl | rfl | rfl | rfl | rfl | rfl
              · cases ho
                exact .same (exec_move 4 _ rfl (hk 4 (by kernel_rfl))) rfl
              · cases ho
                exact .same (exec_move 8 _ rfl (hk 8 (by kernel_rfl))) rfl
              · cases ho
                have h42 : A0.tmps[42]?.getD undef = .slice (some ay) nr c4 := hin 0 42 (by kernel_rfl)
                have h43 : A0.tmps[43]?.getD undef = .int .i64 k := hin 1 43 (by kernel_rfl)
                exact .same (by simp [go_sem, h42, h43, k0, k1, hlk]) rfl
              · cases ho
                have h44 : A0.tmps[44]?.getD undef = .pointer (some (ay.add (k * 3))) := hin 2 44 (by kernel_rfl)
                exact .same (exec_load 44 _ rfl stRow (ay.add (k * 3)) csy h44 HLy.out (QAy.out.chg hN id)) rfl
              · cases ho
                exact .same (exec_move 5 _ rfl (hk 5 (by kernel_rfl))) rfl
              · cases ho
                exact .same (exec_move 6 _ rfl (hk 6 (by kernel_rfl))) rfl
              · cases ho
                have h46 : A0.tmps[46]?.getD undef = .slice (some ax) nm c5 := hin 4 46 (by kernel_rfl)
                have h47 : A0.tmps[47]?.getD undef = .int .i64 i := hin 5 47 (by kernel_rfl)
                exact .same (by simp [go_sem, h46, h47, p0, p1, hlt]) rfl
              · cases ho
                have h48 : A0.tmps[48]?.getD undef = .pointer (some (ax.add (i * 3))) := hin 6 48 (by kernel_rfl)
                exact .same (exec_load 48 _ rfl stRow (ax.add (i * 3)) csx h48 HLx.out (QAx.out.chg hN id)) rfl
              · cases ho
                have h45 : A0.tmps[45]?.getD undef = .agg csy.toArray := hin 3 45 (by kernel_rfl)
                have h49 : A0.tmps[49]?.getD undef = .agg csx.toArray := hin 7 49 (by kernel_rfl)
                refine .call (f := 9) (args := #[.agg csy.toArray, .agg csx.toArray]) (W' := W) ?_ ((cmp_row W csy csx y x (QRy.out.chg hN) (QRx.out.chg hN)).mono ?_)
                · simp [go_sem, h45, h49, eg9]
                · rintro e w' ⟨rfl, hc⟩
                  exact ⟨_, rfl, hc, by rw [Hq.out]; rfl⟩
              · cases ho
                have h50 : A0.tmps[50]?.getD undef = .int .i64 q := hin 8 50 (by kernel_rfl)
                exact .same (by simp [go_sem, h50, hbq]) rfl
            obtain ⟨x42, x43, x44, x45, x46, x47, x48, x49, x50, x51, rfl⟩ : ∃ x42 x43 x44 x45 x46 x47 x48 x49 x50 x51, l = [x42, x43, x44, x45, x46, x47, x48, x49, x50, x51] := by
              match l, hl with
              | [x42, x43, x44, x45, x46, x47, x48, x49, x50, x51], _ => exact ⟨_, _, _, _, _, _, _, _, _, _, rfl⟩
            obtain rfl : x42 = .slice (some ay) nr c4 := hΦ 0 (by decide)
            obtain rfl : x43 = .int .i64 k := hΦ 1 (by decide)
            obtain rfl : x44 = .pointer (some (ay.add (k * 3))) := hΦ 2 (by decide)
            obtain rfl : x45 = .agg csy.toArray := hΦ 3 (by decide)
            obtain rfl : x46 = .slice (some ax) nm c5 := hΦ 4 (by decide)
            obtain rfl : x47 = .int .i64 i := hΦ 5 (by decide)
            obtain rfl : x48 = .pointer (some (ax.add (i * 3))) := hΦ 6 (by decide)
            obtain rfl : x49 = .agg csx.toArray := hΦ 7 (by decide)
            obtain rfl : x50 = .int .i64 q := hΦ 8 (by decide)
            obtain rfl : x51 = .bool bq := hΦ 9 (by decide)
            simp only [putsL, List.zip_cons_cons, List.zip_nil_left, List.zip_nil_right, List.zip, List.zipWith, Act.put, List.setIfInBounds_toArray, List.set_cons_succ, List.set_cons_zero]
            clear hΦ hl
            have RN := Lib.hid (QN.out.trans hN (fun _ _ x => x))
            have c56 := hN.cellS QSy.out id
            refine AtN.done rfl ?_
            clear hN QN QAx QRx QAy QRy QSy
            have hbs := bestOf_snoc (rs.take k) x y
            rw [← take_succ_get Hy.out, Hq.out] at hbs
            have Hbs := Lib.hid hbs
            clear hbs
            cases bq with
            | true =>
              have hq0 : q = 0 := by simpa using Hbq.out
              go_wp2_with fail
              all_goals
                go_roundw
                case rel =>
                  refine ⟨k + 1, by omega, by go_num, ?_, RN.out⟩
                  rw [Hbs.out, if_pos hq0]
                  congr 1
                  omega
                case measure => simp [intOf]; omega
            | false =>
              have hq0 : ¬ q = 0 := by simpa using Hbq.out
              go_wp2_with fail
              go_roundw
              case rel => exact ⟨k + 1, by omega, by go_num, by rw [Hbs.out, if_neg hq0], RN.out⟩
              case measure => simp [intOf]; omega
          · have hbest : bestOf (rs.take k) x = x.stamp := by
              rw [List.take_of_length_le (by rw [Hnr.out]; omega)]
              exact best_is HM.out HSt0.out HXm.out
            rw [hbest]
            have cx2 := HNq.out.cellS HStx.out id
            have HNr2 := Lib.hid (HNr.out.trans HNq.out (fun _ _ x => x))
            go_wp2_with fail
            go_roundw
            case rel => exact ⟨i + 1, by omega, by go_num, HNr2.out⟩
            case measure => simp [intOf]; omega
    · go_wp2_with fail
      have HNl := HNr
      obtain ⟨wo, hwo⟩ : ∃ wo, wo = wr := ⟨_, rfl⟩
      subst hwo
      go_loopw [9] (fun u9 wq => ∃ k : Nat, k ≤ nr ∧ u9 = .int .i64 k ∧ New wo wq) (fun u _ => nr - (intOf u).toNat)
      case atStart => exact ⟨0, Nat.zero_le _, rfl, Chg.refl _ _⟩
      case round =>
        obtain ⟨k, hk, rfl, hNq⟩ := hrel
        have HNq := Lib.hid (HNl.out.trans hNq (fun _ _ x => x))
        have HNo := Lib.hid hNq
        clear hNq
        by_cases hlk : k < nr
        · obtain ⟨y, hy⟩ : ∃ y, rs[k]? = some y := ⟨_, List.getElem?_eq_getElem (by rw [Hnr.out]; exact hlk)⟩
          have hS4 := HS4b.out.chg HNq.out
          rw [Hnr.out] at hS4
          obtain ⟨ay, csy, rfl, haty, hly, hrowy⟩ := hS4.row hy
          obtain ⟨Ayy, cyy, hcsy, _⟩ := id hrowy
          have hsty := haty 2 (.int .i64 y.stamp) (by rw [hcsy]; rfl)
          rw [add_succ] at hsty
          have k0 : (0 : Int) ≤ (k : Int) := by omega
          have k1 : (k : Int) < (nr : Int) := by omega
          have hge := find_is HM.out (List.mem_of_getElem? hy)
          obtain ⟨fs, hfs⟩ : ∃ fs, findS m y = fs := ⟨_, rfl⟩
          rw [hfs] at hge
          have hlt3 : decide (fs < y.stamp) = false := by simp; omega
          have hFind := fun W (hW : New wr W) => find_sl W _ m (HS5.out.chg (HNq.out.trans hW (fun _ _ x => x))) csy y (hrowy.chg hW)
          rw [hfs, Hnm.out] at hFind
          have HLy := Lib.hid hly
          have HFind := Lib.hid hFind
          go_upto_region 20 with fail
          refine wp_region_at (by kernel_rfl) ?_
          have hq2 : New wr wr.drew := (Chg.refl _ _).drew
          have QAy := Lib.hid (haty.chg hq2 id)
          have QSy := Lib.hid (hq2.cellS hsty id)
          have QN := Lib.hid hq2
          have QFind := Lib.hid (fun W (hW : New wr.drew W) => hFind W (hq2.trans hW (fun _ _ x => x)))
          clear hq2 hS4 haty hly hrowy hcsy hsty hy hge hfs hFind HFind
          have QO := Lib.hid (HNo.out.trans QN.out (fun _ _ x => x))
          clear QN
          generalize wr.drew = we at QAy QSy QFind QO ⊢
          refine AtN.segN2 0 11 [72, 73, 74, 75, 76, 77, 78, 79, 80, 81, 82] (fun
            | 0 => fun v _ => v = .slice A5 nm c5
            | 1 => fun v _ => v = .slice (some ay) nr c4
            | 2 => fun v _ => v = .int .i64 k
            | 3 => fun v _ => v = .pointer (some (ay.add (k * 3)))
            | 4 => fun v _ => v = .agg csy.toArray
            | 5 => fun v _ => v = .int .i64 fs
            | 6 => fun v _ => v = .slice (some ay) nr c4
            | 7 => fun v _ => v = .int .i64 k
            | 8 => fun v _ => v = .pointer (some (ay.add (k * 3)))
            | 9 => fun v _ => v = .pointer (some ⟨(ay.add (k * 3)).block, (ay.add (k * 3)).off + 2, none⟩)
            | 10 => fun v _ => v = .int .i64 y.stamp
            | _ => fun _ _ => True) (by kernel_rfl) (by kernel_rfl) (by kernel_rfl) (by kernel_rfl) (fun j v w1 w2 hc h => ?_) (fun i hn hi o ho A0 W hN hin hk => ?_) (fun l Wf hN hl hΦ => ?_)
          · match j with
            | 0 | 1 | 2 | 3 | 4 | 5 | 6 | 7 | 8 | 9 | 10 => exact h
            | _ + 11 => trivial
          · rcases (show i = 0 ∨ i = 1 ∨ i = 2 ∨ i = 3 ∨ i = 4 ∨ i = 5 ∨ i = 6 ∨ i = 7 ∨ i = 8 ∨ i = 9 ∨ i = 10 by omega) with rfl | rfl | rfl | rfl | rfl | rfl | rfl | rfl | rfl | rfl | rfl
            · cases ho
              exact .same (exec_move 5 _ rfl (hk 5 (by kernel_rfl))) rfl
            · cases ho
              exact .same (exec_move 4 _ rfl (hk 4 (by kernel_rfl))) rfl
            · cases ho
              exact .same (exec_move 9 _ rfl (hk 9 (by kernel_rfl))) rfl
            · cases ho
              have h73 : A0.tmps[73]?.getD undef = .slice (some ay) nr c4 := hin 1 73 (by kernel_rfl)
              have h74 : A0.tmps[74]?.getD undef = .int .i64 k := hin 2 74 (by kernel_rfl)
              exact .same (by simp [go_sem, h73, h74, k0, k1, hlk]) rfl
            · cases ho
              have h75 : A0.tmps[75]?.getD undef = .pointer (some (ay.add (k * 3))) := hin 3 75 (by kernel_rfl)
              exact .same (exec_load 75 _ rfl stRow (ay.add (k * 3)) csy h75 HLy.out (QAy.out.chg hN id)) rfl
            · cases ho
              have h72 : A0.tmps[72]?.getD undef = .slice A5 nm c5 := hin 0 72 (by kernel_rfl)
              have h76 : A0.tmps[76]?.getD undef = .agg csy.toArray := hin 4 76 (by kernel_rfl)
              refine .call (f := 10) (args := #[.slice A5 nm c5, .agg csy.toArray]) (W' := W) ?_ ((QFind.out W hN).mono ?_)
              · simp [go_sem, h72, h76, eg10]
              · rintro e w' ⟨rfl, hc⟩
                exact ⟨_, rfl, hc, rfl⟩
            · cases ho
              exact .same (exec_move 4 _ rfl (hk 4 (by kernel_rfl))) rfl
            · cases ho
              exact .same (exec_move 9 _ rfl (hk 9 (by kernel_rfl))) rfl
            · cases ho
              have h78 : A0.tmps[78]?.getD undef = .slice (some ay) nr c4 := hin 6 78 (by kernel_rfl)
              have h79 : A0.tmps[79]?.getD undef = .int .i64 k := hin 7 79 (by kernel_rfl)
              exact .same (by simp [go_sem, h78, h79, k0, k1, hlk]) rfl
            · cases ho
              have h80 : A0.tmps[80]?.getD undef = .pointer (some (ay.add (k * 3))) := hin 8 80 (by kernel_rfl)
              exact .same (by simp [go_sem, h80]) rfl
            · cases ho
              have h81 : A0.tmps[81]?.getD undef = .pointer (some ⟨(ay.add (k * 3)).block, (ay.add (k * 3)).off + 2, none⟩) := hin 9 81 (by kernel_rfl)
              have hcx : W.cell? ⟨(ay.add (k * 3)).block, (ay.add (k * 3)).off + 2, none⟩ = some (.int .i64 y.stamp) := hN.cellS QSy.out id
              exact .same (v := .int .i64 y.stamp) (by simp [go_sem, h81, hcx]) rfl
          obtain ⟨x72, x73, x74, x75, x76, x77, x78, x79, x80, x81, x82, rfl⟩ : ∃ x72 x73 x74 x75 x76 x77 x78 x79 x80 x81 x82, l = [x72, x73, x74, x75, x76, x77, x78, x79, x80, x81, x82] := by
            match l, hl with
            | [x72, x73, x74, x75, x76, x77, x78, x79, x80, x81, x82], _ => exact ⟨_, _, _, _, _, _, _, _, _, _, _, rfl⟩
          obtain rfl : x72 = .slice A5 nm c5 := hΦ 0 (by decide)
          obtain rfl : x73 = .slice (some ay) nr c4 := hΦ 1 (by decide)
          obtain rfl : x74 = .int .i64 k := hΦ 2 (by decide)
          obtain rfl : x75 = .pointer (some (ay.add (k * 3))) := hΦ 3 (by decide)
          obtain rfl : x76 = .agg csy.toArray := hΦ 4 (by decide)
          obtain rfl : x77 = .int .i64 fs := hΦ 5 (by decide)
          obtain rfl : x78 = .slice (some ay) nr c4 := hΦ 6 (by decide)
          obtain rfl : x79 = .int .i64 k := hΦ 7 (by decide)
          obtain rfl : x80 = .pointer (some (ay.add (k * 3))) := hΦ 8 (by decide)
          obtain rfl : x81 = .pointer (some ⟨(ay.add (k * 3)).block, (ay.add (k * 3)).off + 2, none⟩) := hΦ 9 (by decide)
          obtain rfl : x82 = .int .i64 y.stamp := hΦ 10 (by decide)
          simp only [putsL, List.zip_cons_cons, List.zip_nil_left, List.zip_nil_right, List.zip, List.zipWith, Act.put, List.setIfInBounds_toArray, List.set_cons_succ, List.set_cons_zero]
          clear hΦ hl
          have RO := Lib.hid (QO.out.trans hN (fun _ _ x => x))
          clear hN QAy QSy QFind QO
          refine AtN.list 11 12 (by kernel_rfl) ?_
          change wpList _ _ _ [_] _ _
          go_wp2_with fail
          change AtN _ _ _ 12 _ _
          refine AtN.done rfl ?_
          go_wp2_with fail
          go_roundw
          case rel => exact ⟨k + 1, by omega, by go_num, RO.out⟩
          case measure => simp [intOf]; omega
        · have hcm : ∀ r ∈ m, canonR r := fun r hr => HCan.out r (HM.out.sub r hr)
          have hmm : ∀ W, New wr W → Calls Try.prog 8 #[.slice A5 nm c5] W fun e w' => ∃ v', e = .returned v' ∧ RowSl w' v' m ∧ New W w' := fun W hW => by
            have h5 := HS5.out.chg (HNq.out.trans hW (fun _ _ x => x))
            rw [Hnm.out] at h5
            refine (merge_sl W _ _ h5).mono ?_
            rintro e w' ⟨v', out, rfl, hm2, hsl, hN⟩
            rw [merge_uniq hcm hm2 (merge_self HM.out.up)] at hsl
            exact ⟨v', rfl, hsl, hN⟩
          have HMm := Lib.hid hmm
          have h5 := HS5.out.chg HNq.out
          rw [Hnm.out] at h5
          have H5 := Lib.hid h5
          clear h5 hmm hcm
          go_wp2_with fail
          refine (HMm.out _ (Chg.refl _ _)).mono ?_
          rintro e W2 ⟨v', rfl, hsl, hN⟩
          have HSl := Lib.hid hsl
          have HN2 := Lib.hid hN
          clear hsl hN
          go_wp2_with fail
          refine (same_sl _ _ _ _ HSl.out (H5.out.chg HN2.out)).mono ?_
          rintro e W3 ⟨rfl, hN⟩
          have HN3 := Lib.hid hN
          clear hN
          go_wp2_with fail
          go_ret
          exact ⟨rfl, (HNb.out.trans HNq.out (fun _ _ x => x)).trans (HN2.out.trans HN3.out (fun _ _ x => x)) (fun _ _ x => x)⟩
end Go.Proofs.Ytenkobgeflckdab
