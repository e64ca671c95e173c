/- The walk of DeltaDiffs. -/
import Derived.Test.YtenkobgeflckdaaSl
import Derived.Deep.CutRange
set_option linter.unusedVariables false
set_option linter.unusedSimpArgs false
namespace Go.Proofs.Ytenkobgeflckdaa
open Go.RowKit Go.Shelf

def ddP (gone : List Rw) (r : Rw) : Bool := decide (findS gone r < 0)
theorem take_filter {x : List Rw} {p : Rw → Bool} {k : Nat} {r : Rw} (h : x[k]? = some r) : ((x.take (k + 1)).filter p).length = ((x.take k).filter p).length + (if p r = true then 1 else 0) := by
  rw [take_succ_get h, List.filter_append, List.length_append]
  congr 1
  by_cases hp : p r = true <;> simp [hp]

set_option maxHeartbeats 4000000 in
set_option maxRecDepth 100000 in
theorem walk_DeltaDiffs (w : World) (v0 : Value) (n0 : Nat) (X0 : Nat → Int) (hx0 : IntsAt w v0 6 n0 X0) (v1 : Value) (n1 : Nat) (X1 : Nat → Int) (hx1 : IntsAt w v1 6 n1 X1) :
    Calls Try.prog 8 #[v0, v1] w fun e w' => e = .returned (.bool true) ∧ New w w' := by
  have HX0 := Lib.hid hx0
  have HX1 := Lib.hid hx1
  clear hx0 hx1
  go_enter Try.func8, Try.ntmps8
  go_wp2_with fail
  refine (awake13 _).mono ?_
  rintro e w1 ⟨rfl, hN1⟩
  have HR := Lib.hid (rows_sl w1 v0 n0 X0 (HX0.out.chg hN1))
  have HX1' := Lib.hid (HX1.out.chg hN1)
  have HN1 := Lib.hid hN1
  clear hN1 HX0 HX1
  go_wp2_with fail
  refine HR.out.mono ?_
  rintro e w2 ⟨vo, rs, rfl, hl, hl40, hg, hN2⟩
  have HR2 := Lib.hid (rows_sl w2 v1 n1 X1 (HX1'.out.chg hN2))
  have HO := Lib.hid hl
  have HG := Lib.hid hg
  have HN2 := Lib.hid (HN1.out.trans hN2 (fun _ _ x => x))
  clear hN2 hl hg HR HX1' HN1
  go_wp2_with fail
  refine HR2.out.mono ?_
  rintro e w3 ⟨vn, ss, rfl, hl, hm40, hg, hN3⟩
  have hO := HO.out.chg hN3
  have HD := Lib.hid (diff_sl w3 vo vn rs ss hO hl)
  have HO3 := Lib.hid hO
  have HW3 := Lib.hid hl
  have HG2 := Lib.hid hg
  have HN3 := Lib.hid (HN2.out.trans hN3 (fun _ _ x => x))
  clear hN3 hl hg HR2 HO HN2 hO
  go_wp2_with fail
  refine HD.out.mono ?_
  rintro e w4 ⟨a, b, u1, u2, rfl, ha, hb, h1, h2, hN4⟩
  have hO := HO3.out.chg hN4
  obtain ⟨y1, W1, y2, W2, hrun1, hrun2, hN5, hOO⟩ := two_sl hO hO (by omega) 50 50
  have HD2 := Lib.hid (diff_sl W2 vo y2 rs (rs ++ rs) (hO.chg hN5) hOO)
  have HA := Lib.hid ha
  have HB := Lib.hid hb
  have H1 := Lib.hid (h1.chg hN5)
  have H2 := Lib.hid (h2.chg hN5)
  have Hr1 := Lib.hid hrun1
  have Hr2 := Lib.hid hrun2
  have HO5 := Lib.hid (hO.chg hN5)
  have HW5 := Lib.hid ((HW3.out.chg hN4).chg hN5)
  have HN5 := Lib.hid ((HN3.out.trans hN4 (fun _ _ x => x)).trans hN5 (fun _ _ x => x))
  clear ha hb h1 h2 hN4 hrun1 hrun2 hO hOO hN5 HD HO3 HW3 HN3
  go_wp2_with (first | ((with_reducible refine wpl_append rfl (.const (.slice none 0 0)) (.tmp 30) 50 50 rfl ?_ ?_ Hr1.out ?_); exact rfl; exact rfl) | ((with_reducible refine wpl_append rfl (.tmp 31) (.tmp 32) 50 50 rfl ?_ ?_ Hr2.out ?_); exact rfl; exact rfl))
  refine HD2.out.mono ?_
  rintro e w6 ⟨a', b', u3, u4, rfl, ha, hb, h3, h4, hN6⟩
  have hb2 : IsMerge rs b' := merge_same (by intro r; simp) hb
  rw [diff_same ha hb2 true] at h3
  rw [diff_same hb2 ha false] at h4
  obtain ⟨A3, c3, rfl⟩ := h3.form0
  obtain ⟨A4, c4, rfl⟩ := h4.form0
  have hO := HO5.out.chg hN6
  have hC := H1.out.chg hN6
  have hbl : (b.filter (misB a true)).length ≤ 40 := Nat.le_trans (List.length_filter_le _ _) (merge_len HB.out 40 hm40)
  obtain ⟨z1, W3, z2, W4, hrun1, hrun2, hN7, hOC⟩ := two_sl hO hC (by omega) 50 50
  have HM := Lib.hid (merge_sl W4 z2 _ hOC)
  have Hr3 := Lib.hid hrun1
  have Hr4 := Lib.hid hrun2
  have HO7 := Lib.hid (hO.chg hN7)
  have HW7 := Lib.hid ((HW5.out.chg hN6).chg hN7)
  have HE7 := Lib.hid ((H2.out.chg hN6).chg hN7)
  have HN7 := Lib.hid ((HN5.out.trans hN6 (fun _ _ x => x)).trans hN7 (fun _ _ x => x))
  clear ha hb hb2 h3 h4 hN6 hO hC hOC hrun1 hrun2 hN7 HD2 Hr1 Hr2 HO5 HW5 H1 H2 HN5 hbl
  go_wp2_with (first | ((with_reducible refine wpl_append rfl (.const (.slice none 0 0)) (.tmp 49) 50 50 rfl ?_ ?_ Hr3.out ?_); exact rfl; exact rfl) | ((with_reducible refine wpl_append rfl (.tmp 50) (.tmp 51) 50 50 rfl ?_ ?_ Hr4.out ?_); exact rfl; exact rfl))
  refine HM.out.mono ?_
  rintro e w8 ⟨vx, x, rfl, hx, hxl, hN8⟩
  have hW := HW7.out.chg hN8
  have HM2 := Lib.hid (merge_sl w8 vn ss hW)
  have HX := Lib.hid hx
  have HXl := Lib.hid hxl
  have HO8 := Lib.hid (HO7.out.chg hN8)
  have HE8 := Lib.hid (HE7.out.chg hN8)
  have HN8 := Lib.hid (HN7.out.trans hN8 (fun _ _ x => x))
  clear hx hxl hN8 hW HM Hr3 Hr4 HO7 HW7 HE7 HN7
  go_wp2_with fail
  refine HM2.out.mono ?_
  rintro e w9 ⟨vy, y, rfl, hy, hyl, hN9⟩
  have hdd := dd_all (o := a) (fun r hr => (HG.out r hr).can) (fun r hr => (HG2.out r hr).can) (fun r hr => (HG.out r hr).st0) (fun r hr => (HG2.out r hr).st0) HA.out HB.out hy HA.out HX.out
  have HDa := Lib.hid hdd.1
  have HDb := Lib.hid (show (x.filter (ddP (a.filter (misB b false)))).length = y.length from hdd.2)
  have hXl := HXl.out.chg hN9
  obtain ⟨Ax, cx, hvx, hx1000⟩ := hXl.form
  subst hvx
  obtain ⟨Ay, cy, hvy, hy1000⟩ := hyl.form
  subst hvy
  obtain ⟨n, hn⟩ : ∃ n, x.length = n := ⟨_, rfl⟩
  rw [hn] at hXl hx1000 ⊢
  have HXl9 := Lib.hid hXl
  have HYl := Lib.hid hyl
  have HO9 := Lib.hid (HO8.out.chg hN9)
  have HE9 := Lib.hid (HE8.out.chg hN9)
  have HN9 := Lib.hid (HN8.out.trans hN9 (fun _ _ x => x))
  have Hn := Lib.hid hn
  obtain ⟨gone, hgone⟩ : ∃ g, a.filter (misB b false) = g := ⟨_, rfl⟩
  rw [hgone] at HDa HDb HE9
  clear hy hyl hN9 hdd hXl hn hgone HM2 HXl HO8 HE8 HN8 HX HB
  go_wp2_with fail
  go_loopw [14, 15] (fun u14 u15 wr => ∃ k : Nat, k ≤ n ∧ u15 = .int .i64 k ∧ u14 = .int .i64 ((x.take k).filter (ddP gone)).length ∧ New w9 wr) (fun _ u _ => n - (intOf u).toNat)
  case atStart => exact ⟨0, Nat.zero_le _, rfl, rfl, Chg.refl _ _⟩
  case round =>
    obtain ⟨k, hkn, rfl, rfl, hN⟩ := hrel
    obtain ⟨q, hq⟩ : ∃ q, ((x.take k).filter (ddP gone)).length = q := ⟨_, rfl⟩
    have hqk : q ≤ k := by rw [← hq]; exact Nat.le_trans (List.length_filter_le _ _) (List.length_take_le _ _)
    rw [hq]
    have Hq := Lib.hid hq
    have HNw := Lib.hid hN
    clear hN hq
    by_cases hlt : k < n
    · obtain ⟨r, hr⟩ : ∃ r, x[k]? = some r := ⟨_, List.getElem?_eq_getElem (by rw [Hn.out]; exact hlt)⟩
      obtain ⟨ad, cs, rfl, hat, hk3, hrow⟩ := HXl9.out.row hr
      have hdd := HDa.out r (List.mem_of_getElem? hr)
      have htf := take_filter (p := ddP gone) hr
      rw [Hq.out] at htf
      have Htf := Lib.hid htf
      have Hdd := Lib.hid hdd
      have Hat := Lib.hid (hat.chg HNw.out id)
      have Hrow := Lib.hid (hrow.chg HNw.out)
      have Hf1 := Lib.hid (find_sl wr u2 gone (HE9.out.chg HNw.out) cs r (hrow.chg HNw.out))
      obtain ⟨f1, hf1⟩ : ∃ f, findS gone r = f := ⟨_, rfl⟩
      rw [hf1] at Hf1
      have Hf1e := Lib.hid hf1
      have q0 : (0 : Int) ≤ (k : Int) := by omega
      have q1 : (k : Int) < (n : Int) := by omega
      clear hr hat hrow hdd htf hf1
      go_wp2_with ((with_reducible refine wpl_load rfl (.tmp 65) 58 rfl stRow (ad.add (k * 3)) cs ?_ hk3 Hat.out ?_); exact rfl)
      refine Hf1.out.mono ?_
      rintro e w10 ⟨rfl, hN10⟩
      have hN10' := HNw.out.trans hN10 (fun _ _ x => x)
      have HN10 := Lib.hid hN10'
      have HatA := Lib.hid (Hat.out.chg hN10 id)
      have HrowA := Lib.hid (Hrow.out.chg hN10)
      have Hf2 := Lib.hid (find_sl w10 _ y (HYl.out.chg hN10') cs r (Hrow.out.chg hN10))
      obtain ⟨f2, hf2⟩ : ∃ f, findS y r = f := ⟨_, rfl⟩
      rw [hf2] at Hf2
      have Hf2e := Lib.hid hf2
      clear hN10 hN10' hf2 Hf1 Hat Hrow HNw
      have hdd := Hdd.out
      unfold ddOk at hdd
      rw [Hf1e.out, Hf2e.out] at hdd
      by_cases hf : 0 ≤ f1
      · have hf2 : f2 < 0 := by
          rcases hdd with h | h
          · exact h.2
          · exact absurd h.1 (by omega)
        have HQ2 := Lib.hid (show ((x.take (k + 1)).filter (ddP gone)).length = q by
          have := Htf.out
          rw [if_neg (by unfold ddP; rw [Hf1e.out]; simpa using hf)] at this
          exact this)
        have d1 : decide (0 ≤ f1) = true := decide_eq_true hf
        have d2 : decide (0 ≤ f2) = false := decide_eq_false (by omega)
        clear hdd
        go_wp2_with ((with_reducible refine wpl_load rfl (.tmp 72) 58 rfl stRow (ad.add (k * 3)) cs ?_ hk3 HatA.out ?_); exact rfl)
        refine Hf2.out.mono ?_
        rintro e w11 ⟨rfl, hN11⟩
        have HN11 := Lib.hid (HN10.out.trans hN11 (fun _ _ x => x))
        clear hN11
        go_wp2_with fail
        go_roundw
        case rel => exact ⟨k + 1, by omega, by go_num, by rw [HQ2.out], HN11.out⟩
        case measure => simp only [intOf]; omega
      · have hdd2 := hdd.resolve_left (fun h => hf h.1)
        obtain ⟨_, hf20, hf2s, hst⟩ := hdd2
        obtain ⟨f3, hf3⟩ : ∃ f, findS a r = f := ⟨_, rfl⟩
        rw [hf3] at hst
        have HQ2 := Lib.hid (show ((x.take (k + 1)).filter (ddP gone)).length = q + 1 by
          have := Htf.out
          rw [if_pos (by unfold ddP; rw [Hf1e.out]; simpa using hf)] at this
          exact this)
        have d1 : decide (0 ≤ f1) = false := decide_eq_false hf
        have hst2 : w10.cell? ⟨(ad.add (k * 3)).block, (ad.add (k * 3)).off + 2, none⟩ = some (.int .i64 r.stamp) := by
          obtain ⟨X2, x2, e1, _⟩ := HrowA.out
          have := HatA.out 2 (.int .i64 r.stamp) (by rw [e1]; rfl)
          rwa [add_succ] at this
        have Hst := Lib.hid hst
        have Hst2 := Lib.hid hst2
        have Hf3e := Lib.hid hf3
        clear hdd hst hst2 hf3
        go_wp2_with ((with_reducible refine wpl_load rfl (.tmp 81) 58 rfl stRow (ad.add (k * 3)) cs ?_ hk3 HatA.out ?_); exact rfl)
        refine Hf2.out.mono ?_
        rintro e w11 ⟨rfl, hN11⟩
        have hnd : New w11 w11.drew := (Chg.refl _ _).drew
        have HN11 := Lib.hid ((HN10.out.trans hN11 (fun _ _ x => x)).trans hnd (fun _ _ x => x))
        have hX := hN11.trans hnd (fun _ _ x => x)
        have HatB := Lib.hid (HatA.out.chg hX id)
        have HrowB := Lib.hid (HrowA.out.chg hX)
        have HstB := Lib.hid (hX.cellS Hst2.out id)
        clear hN11 hnd hX HatA HrowA Hst2 Hf2
        go_upto_region 19 with fail
        refine wp_region_at (by kernel_rfl) ?_
        generalize w11.drew = wd at HN11 HatB HrowB HstB ⊢
        have HOd := Lib.hid (HO9.out.chg HN11.out)
        have d3 : decide (f2 < 0) = false := decide_eq_false (by omega)
        have d4 : decide (r.stamp < f2) = false := decide_eq_false (by omega)
        refine AtN.segQ2 0 3 (fun
          | 0 => .int .i64 f2
          | 1 => .bool false
          | _ => .bool false)
          [(84, .int .i64 f2), (85, .bool false), (86, .bool false)] (by kernel_rfl) (by kernel_rfl) (by kernel_rfl) (by kernel_rfl) rfl (fun i hn hi o ho A0 hin hk => ?_) ?_
        · rcases (show i = 0 ∨ i = 1 ∨ i = 2 by omega) with rfl | rfl | rfl
          · cases ho
            exact exec_move 16 _ rfl (hk 16 (by kernel_rfl))
          · cases ho
            have h84 : A0.tmps[84]?.getD undef = .int .i64 f2 := hin 0 84 (by kernel_rfl)
            exact by simp [go_sem, h84, d3, hf20]
          · cases ho
            exact exec_move 85 _ rfl (hin 1 85 (by kernel_rfl))
        simp only [putsL, Act.put, List.setIfInBounds_toArray, List.set_cons_succ, List.set_cons_zero]
        refine AtN.segQ2 3 12 (fun
          | 3 => .slice (some ad) n cx
          | 4 => .int .i64 k
          | 5 => .pointer (some (ad.add (k * 3)))
          | 6 => .pointer (some ⟨(ad.add (k * 3)).block, (ad.add (k * 3)).off + 2, none⟩)
          | 7 => .int .i64 r.stamp
          | 8 => .int .i64 f2
          | 9 => .bool false
          | 10 => .bool false
          | _ => .bool false)
          [(87, .slice (some ad) n cx), (88, .int .i64 k), (89, .pointer (some (ad.add (k * 3)))), (90, .pointer (some ⟨(ad.add (k * 3)).block, (ad.add (k * 3)).off + 2, none⟩)), (91, .int .i64 r.stamp), (92, .int .i64 f2), (93, .bool false), (94, .bool false), (95, .bool false)] (by kernel_rfl) (by kernel_rfl) (by kernel_rfl) (by kernel_rfl) rfl (fun i hn hi o ho A0 hin hk => ?_) ?_
        · rcases (show i = 3 ∨ i = 4 ∨ i = 5 ∨ i = 6 ∨ i = 7 ∨ i = 8 ∨ i = 9 ∨ i = 10 ∨ i = 11 by omega) with rfl | rfl | rfl | rfl | rfl | rfl | rfl | rfl | rfl
          · cases ho
            exact exec_move 12 _ rfl (hk 12 (by kernel_rfl))
          · cases ho
            exact exec_move 15 _ rfl (hk 15 (by kernel_rfl))
          · cases ho
            have h87 : A0.tmps[87]?.getD undef = .slice (some ad) n cx := hin 3 87 (by kernel_rfl)
            have h88 : A0.tmps[88]?.getD undef = .int .i64 k := hin 4 88 (by kernel_rfl)
            exact by simp [go_sem, h87, h88, q0, q1, hlt]
          · cases ho
            have h89 : A0.tmps[89]?.getD undef = .pointer (some (ad.add (k * 3))) := hin 5 89 (by kernel_rfl)
            exact by simp [go_sem, h89]
          · cases ho
            have h90 : A0.tmps[90]?.getD undef = .pointer (some ⟨(ad.add (k * 3)).block, (ad.add (k * 3)).off + 2, none⟩) := hin 6 90 (by kernel_rfl)
            exact by simp [go_sem, h90, HstB.out]
          · cases ho
            exact exec_move 16 _ rfl (hk 16 (by kernel_rfl))
          · cases ho
            have h91 : A0.tmps[91]?.getD undef = .int .i64 r.stamp := hin 7 91 (by kernel_rfl)
            have h92 : A0.tmps[92]?.getD undef = .int .i64 f2 := hin 8 92 (by kernel_rfl)
            exact by simp [go_sem, h91, h92, d4, hf2s]
          · cases ho
            have h86 : A0.tmps[86]?.getD undef = .bool false := hk 86 (by kernel_rfl)
            have h93 : A0.tmps[93]?.getD undef = .bool false := hin 9 93 (by kernel_rfl)
            exact by simp [go_sem, h86, h93]
          · cases ho
            exact exec_move 94 _ rfl (hin 10 94 (by kernel_rfl))
        simp only [putsL, Act.put, List.setIfInBounds_toArray, List.set_cons_succ, List.set_cons_zero]
        have eg1 := enters_of Try.func36 (by kernel_rfl) rfl
        have eg2 := enters_of Try.func37 (by kernel_rfl) rfl
        unfold Enters at eg1 eg2
        refine AtN.segN2 12 28 [96, 97, 98, 99, 100, 101, 102, 103, 104, 105, 106, 107, 108, 109, 110, 111] (fun
          | 12 => fun v _ => v = .slice (some ad) n cx
          | 13 => fun v _ => v = .int .i64 k
          | 14 => fun v _ => v = .pointer (some (ad.add (k * 3)))
          | 15 => fun v _ => v = .pointer (some ⟨(ad.add (k * 3)).block, (ad.add (k * 3)).off + 2, none⟩)
          | 16 => fun v _ => v = .int .i64 r.stamp
          | 17 => fun v _ => v = .int .i64 f2
          | 18 => fun v _ => v = vo
          | 19 => fun v W => RowSl W v a
          | 20 => fun v _ => v = .slice (some ad) n cx
          | 21 => fun v _ => v = .int .i64 k
          | 22 => fun v _ => v = .pointer (some (ad.add (k * 3)))
          | 23 => fun v _ => v = .agg cs.toArray
          | 24 => fun v _ => v = .int .i64 f3
          | 25 => fun v _ => v = .int .i64 r.stamp
          | 26 => fun v _ => v = .bool false
          | 27 => fun v _ => v = .bool false
          | _ => fun _ _ => True) (by kernel_rfl) (by kernel_rfl) (by kernel_rfl) (by kernel_rfl) (fun j v w1 w2 hc h => ?_) (fun i hn hi o ho A0 W hN hin hk => ?_) (fun l W5 hN hl hΦ => ?_)
        · match j with
          | 19 => exact h.chg hc
          | 12 | 13 | 14 | 15 | 16 | 17 | 18 | 20 | 21 | 22 | 23 | 24 | 25 | 26 | 27 => exact h
          | 0 | 1 | 2 | 3 | 4 | 5 | 6 | 7 | 8 | 9 | 10 | 11 => trivial
          | _ + 28 => trivial
        · rcases (show i = 12 ∨ i = 13 ∨ i = 14 ∨ i = 15 ∨ i = 16 ∨ i = 17 ∨ i = 18 ∨ i = 19 ∨ i = 20 ∨ i = 21 ∨ i = 22 ∨ i = 23 ∨ i = 24 ∨ i = 25 ∨ i = 26 ∨ i = 27 by omega) with rfl | rfl | rfl | rfl | rfl | rfl | rfl | rfl | rfl | rfl | rfl | rfl | rfl | rfl | rfl | rfl
          · cases ho
            exact .same (exec_move 12 _ rfl (hk 12 (by kernel_rfl))) rfl
          · cases ho
            exact .same (exec_move 15 _ rfl (hk 15 (by kernel_rfl))) rfl
          · cases ho
            have h96 : A0.tmps[96]?.getD undef = .slice (some ad) n cx := hin 12 96 (by kernel_rfl)
            have h97 : A0.tmps[97]?.getD undef = .int .i64 k := hin 13 97 (by kernel_rfl)
            exact .same (by simp [go_sem, h96, h97, q0, q1, hlt]) rfl
          · cases ho
            have h98 : A0.tmps[98]?.getD undef = .pointer (some (ad.add (k * 3))) := hin 14 98 (by kernel_rfl)
            exact .same (by simp [go_sem, h98]) rfl
          · cases ho
            have h99 : A0.tmps[99]?.getD undef = .pointer (some ⟨(ad.add (k * 3)).block, (ad.add (k * 3)).off + 2, none⟩) := hin 15 99 (by kernel_rfl)
            have hc := hN.cellS HstB.out id
            exact .same (v := .int .i64 r.stamp) (by simp [go_sem, h99, hc]) rfl
          · cases ho
            exact .same (exec_move 16 _ rfl (hk 16 (by kernel_rfl))) rfl
          · cases ho
            exact .same (exec_move 6 _ rfl (hk 6 (by kernel_rfl))) rfl
          · cases ho
            have h102 : A0.tmps[102]?.getD undef = vo := hin 18 102 (by kernel_rfl)
            refine .call (f := 36) (args := #[vo]) (W' := W) ?_ ((merge_sl W vo rs (HOd.out.chg hN)).mono ?_)
            · simp [go_sem, h102, eg1]
            · rintro e w' ⟨vm, m, rfl, hm, hml, hc⟩
              obtain rfl := merge_uniq (fun r hr => (HG.out r hr).can) HA.out hm
              exact ⟨_, rfl, hc, hml⟩
          · cases ho
            exact .same (exec_move 12 _ rfl (hk 12 (by kernel_rfl))) rfl
          · cases ho
            exact .same (exec_move 15 _ rfl (hk 15 (by kernel_rfl))) rfl
          · cases ho
            have h104 : A0.tmps[104]?.getD undef = .slice (some ad) n cx := hin 20 104 (by kernel_rfl)
            have h105 : A0.tmps[105]?.getD undef = .int .i64 k := hin 21 105 (by kernel_rfl)
            exact .same (by simp [go_sem, h104, h105, q0, q1, hlt]) rfl
          · cases ho
            have h106 : A0.tmps[106]?.getD undef = .pointer (some (ad.add (k * 3))) := hin 22 106 (by kernel_rfl)
            exact .same (exec_load 106 _ rfl stRow (ad.add (k * 3)) cs h106 hk3 (HatB.out.chg hN id)) rfl
          · cases ho
            have h103 := hin 19 103 (by kernel_rfl)
            have h107 : A0.tmps[107]?.getD undef = .agg cs.toArray := hin 23 107 (by kernel_rfl)
            have h103' : RowSl W (A0.tmps[103]?.getD undef) a := h103
            refine .call (f := 37) (args := #[A0.tmps[103]?.getD undef, .agg cs.toArray]) (W' := W) ?_ ((find_sl W _ a h103' cs r (HrowB.out.chg hN)).mono ?_)
            · simp [go_sem, h107, eg2]
            · rintro e w' ⟨rfl, hc⟩
              exact ⟨_, rfl, hc, by rw [Hf3e.out]; rfl⟩
          · cases ho
            have h101 : A0.tmps[101]?.getD undef = .int .i64 f2 := hin 17 101 (by kernel_rfl)
            have h108 : A0.tmps[108]?.getD undef = .int .i64 f3 := hin 24 108 (by kernel_rfl)
            exact .same (by simp [go_sem, h101, h108, Hst.out]) rfl
          · cases ho
            have h100 : A0.tmps[100]?.getD undef = .int .i64 r.stamp := hin 16 100 (by kernel_rfl)
            have h109 : A0.tmps[109]?.getD undef = .int .i64 r.stamp := hin 25 109 (by kernel_rfl)
            exact .same (by simp [go_sem, h100, h109]) rfl
          · cases ho
            have h95 : A0.tmps[95]?.getD undef = .bool false := hk 95 (by kernel_rfl)
            have h110 : A0.tmps[110]?.getD undef = .bool false := hin 26 110 (by kernel_rfl)
            exact .same (by simp [go_sem, h95, h110]) rfl
        obtain ⟨x96, x97, x98, x99, x100, x101, x102, x103, x104, x105, x106, x107, x108, x109, x110, x111, rfl⟩ : ∃ x96 x97 x98 x99 x100 x101 x102 x103 x104 x105 x106 x107 x108 x109 x110 x111, l = [x96, x97, x98, x99, x100, x101, x102, x103, x104, x105, x106, x107, x108, x109, x110, x111] := by
          match l, hl with
          | [x96, x97, x98, x99, x100, x101, x102, x103, x104, x105, x106, x107, x108, x109, x110, x111], _ => exact ⟨_, _, _, _, _, _, _, _, _, _, _, _, _, _, _, _, rfl⟩
        obtain rfl : x96 = .slice (some ad) n cx := hΦ 0 (by decide)
        obtain rfl : x97 = .int .i64 k := hΦ 1 (by decide)
        obtain rfl : x98 = .pointer (some (ad.add (k * 3))) := hΦ 2 (by decide)
        obtain rfl : x99 = .pointer (some ⟨(ad.add (k * 3)).block, (ad.add (k * 3)).off + 2, none⟩) := hΦ 3 (by decide)
        obtain rfl : x100 = .int .i64 r.stamp := hΦ 4 (by decide)
        obtain rfl : x101 = .int .i64 f2 := hΦ 5 (by decide)
        obtain rfl : x102 = vo := hΦ 6 (by decide)
        have hx103 := hΦ 7 (by decide)
        obtain rfl : x104 = .slice (some ad) n cx := hΦ 8 (by decide)
        obtain rfl : x105 = .int .i64 k := hΦ 9 (by decide)
        obtain rfl : x106 = .pointer (some (ad.add (k * 3))) := hΦ 10 (by decide)
        obtain rfl : x107 = .agg cs.toArray := hΦ 11 (by decide)
        obtain rfl : x108 = .int .i64 f3 := hΦ 12 (by decide)
        obtain rfl : x109 = .int .i64 r.stamp := hΦ 13 (by decide)
        obtain rfl : x110 = .bool false := hΦ 14 (by decide)
        obtain rfl : x111 = .bool false := hΦ 15 (by decide)
        simp only [putsL, List.zip_cons_cons, List.zip_nil_left, List.zip_nil_right, List.zip, List.zipWith, Act.put, List.setIfInBounds_toArray, List.set_cons_succ, List.set_cons_zero]
        clear hΦ hl
        refine AtN.done rfl ?_
        have HN12 := Lib.hid (HN11.out.trans hN (fun _ _ x => x))
        clear hN
        go_wp2_with fail
        go_roundw
        case rel => exact ⟨k + 1, by omega, by go_num, by rw [HQ2.out]; go_num, HN12.out⟩
        case measure => simp only [intOf]; omega
    · have HL := Lib.hid (show q = y.length by
        have := Hq.out
        rw [List.take_of_length_le (by rw [Hn.out]; omega), HDb.out] at this
        exact this.symm)
      have hlq : q = y.length := HL.out
      subst hlq
      have HNe := Lib.hid (HN9.out.trans HNw.out (fun _ _ x => x))
      go_wp2_with fail
      go_ret
      exact ⟨by simp, HNe.out⟩
end Go.Proofs.Ytenkobgeflckdaa
