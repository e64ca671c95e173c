/- FireOthers: the walk. -/
import Derived.Test.YtenkobgeflckdabRulS
import Derived.Test.YtenkobgeflckdabSlT
import Derived.Test.YtenkobgeflckdabAwk10
set_option linter.unusedVariables false
set_option linter.unusedSimpArgs false
namespace Go.Proofs.Ytenkobgeflckdab
open Go.RowKit Go.Shelf

def useB (s : ByteArray) (L : Lt) : Bool := decide (L.name = s) && decide (L.kind ≤ 2)
theorem use_any (Ls : List Lt) (s : ByteArray) : Ls.any (useB s) = usedB Ls s := rfl
theorem any_take {Ls : List Lt} {k : Nat} {L : Lt} {s : ByteArray} (h : Ls[k]? = some L) : (Ls.take (k + 1)).any (useB s) = ((Ls.take k).any (useB s) || useB s L) := by
  rw [take_succ_get h, List.any_append]
  simp

set_option maxHeartbeats 8000000 in
set_option maxRecDepth 100000 in
theorem walk_FireOthers (w : World) (v0 : Value) (n0 : Nat) (X0 : Nat → Int) (hx0 : IntsAt w v0 6 n0 X0) (v1 : Value) (n1 : Nat) (X1 : Nat → Int) (hx1 : IntsAt w v1 6 n1 X1) (c2 : Int) (h20 : -9223372036854775808 ≤ c2) (h21 : c2 ≤ 9223372036854775807) :
    Calls Try.prog 5 #[v0, v1, .int .i64 c2] w fun e w' => e = .returned (.bool true) ∧ New w w' := by
  have HX0 := Lib.hid hx0
  have HX1 := Lib.hid hx1
  clear hx0 hx1
  go_enter Try.func5, Try.ntmps5
  go_upto_region 3 with first
    | (go_at_call 6; refine (awake10 _).mono ?_; rintro e w1 ⟨rfl, hN1⟩; have HN1 := Lib.hid hN1; clear hN1)
    | (go_at_call 12; refine (rule_sl _ _ _ _ (HX0.out.chg HN1.out) 0 (by unfold B64; omega)).mono ?_; rintro e w2 ⟨vr, r, rfl, hr, hraw, hagg, hN2⟩; obtain ⟨lab, A, c, Ab, cb, rfl⟩ := hr.form; have HR2 := Lib.hid hr; have HRaw := Lib.hid hraw; have HN2 := Lib.hid (HN1.out.trans hN2 (fun _ _ x => x)); clear hr hraw hagg hN2)
    | ((with_reducible refine wpl_box rfl rfl 8 (.tmp 17) 37 rfl rfl rfl rfl stRule zRule [.string lab, .string r.h, .slice A r.ts.length c, .string r.agg, .int .i64 r.at', .slice Ab r.Ls.length cb] ?_ ?_ rfl (rule_one rfl rfl rfl) ?_); exact (by decide : 8 < 95); exact rfl; intro w3 hc3 hb3 hs3; have HB3 := Lib.hid hb3; have HR3 := Lib.hid (HR2.out.chg hc3); have HN3 := Lib.hid (HN2.out.trans hc3 (fun _ _ x => x)); clear hc3 hb3 hs3)
  obtain ⟨b8, hb8⟩ : ∃ b, w2.heap.size = b := ⟨_, rfl⟩
  rw [hb8] at HB3 ⊢
  obtain ⟨nb, hnb⟩ : ∃ nb, r.Ls.length = nb := ⟨_, rfl⟩
  rw [hnb] at HB3 HR3 ⊢
  have Hnb := Lib.hid hnb
  clear HX0 HN1 HN2 HR2 hnb hb8
  have hnb4 : nb ≤ 4 := by rw [← Hnb.out]; exact HRaw.out.l4
  go_upto_if 22 with (go_at_call 7; refine (rows_sl _ _ _ _ (HX1.out.chg HN3.out)).mono ?_; rintro e w4 ⟨x9, rs, rfl, hsl, h40, hg, hN4⟩; obtain ⟨A4, c4, rfl, hl4⟩ := hsl.form; have HS4 := Lib.hid hsl; have HG4 := Lib.hid hg; have HB4 := Lib.hid (HB3.out.chg hN4 id); have HR4 := Lib.hid (HR3.out.chg hN4); have HN4 := Lib.hid (HN3.out.trans hN4 (fun _ _ x => x)); clear hsl hg hN4)
  clear HB3 HR3 HN3 HX1
  obtain ⟨nr, hnr⟩ : ∃ nr, rs.length = nr := ⟨_, rfl⟩
  rw [hnr] at HS4 hl4 h40 ⊢
  have Hnr := Lib.hid hnr
  clear hnr
  go_cut [9] from 23 to 25 (fun u wx => ∃ (xs : List Rw) (c : Nat), xs.length ≤ 16 ∧ u = .slice A4 xs.length c ∧ RowSl w4 u xs ∧ (∀ x ∈ xs, Good x) ∧ wx = w4)
  case first =>
    by_cases h16 : 16 < nr
    · have t16 : decide ((16 : Int) < (nr : Int)) = true := by simp; omega
      have t16' : decide (16 < nr) = true := by simp; omega
      obtain ⟨css, hcss⟩ := HS4.out.cells
      obtain ⟨x0, hx0⟩ : ∃ x, rs[0]? = some x := ⟨_, List.getElem?_eq_getElem (by rw [Hnr.out]; omega)⟩
      obtain ⟨a4, _, rfl, _⟩ := HS4.out.row hx0
      have hcap : nr ≤ c4 := by
        obtain ⟨A', c', e, _, h3, _⟩ := hcss
        simp only [Value.slice.injEq] at e
        have := Hnr.out
        omega
      have htk := (hcss.take (q := 16) (by omega)).sl
      have HTk := Lib.hid htk
      have s1 : (16 : Int) ≤ (c4 : Int) := by omega
      have s2 : 16 ≤ c4 := by omega
      clear hcss hx0 htk
      go_wp2_with fail
      go_meet
      have hl : (rs.take 16).length = 16 := by rw [List.length_take, Hnr.out]; omega
      exact ⟨rs.take 16, c4, by omega, by rw [hl], HTk.out, fun x hx => HG4.out x (List.mem_of_mem_take hx), rfl⟩
    · have t16 : decide ((16 : Int) < (nr : Int)) = false := by simp; omega
      have t16' : decide (16 < nr) = false := by simp; omega
      go_wp2_with fail
      go_meet
      exact ⟨rs, c4, by rw [Hnr.out]; omega, by rw [Hnr.out], HS4.out, HG4.out, rfl⟩
  case rest =>
    obtain ⟨xs, cx, hx16, rfl, hsx, hgx, rfl⟩ := hcut
    obtain ⟨wr0, hwr0⟩ : ∃ wr0, wr0 = wc := ⟨_, rfl⟩
    rw [← hwr0] at HB4 HR4 HN4 hsx ⊢
    clear hwr0 HS4 HG4 Hnr
    obtain ⟨nx, hnx⟩ : ∃ nx, xs.length = nx := ⟨_, rfl⟩
    rw [hnx] at hx16 hsx ⊢
    have Hnx := Lib.hid hnx
    have HSx := Lib.hid hsx
    have HGx := Lib.hid hgx
    clear hnx hsx hgx
    go_wp2_with fail
    go_loopw [10, 11] (fun u10 u11 wr => ∃ (i : Nat) (cso : List (List Value)), i ≤ nx ∧ u11 = .int .i64 i ∧ cso.length ≤ i ∧ Own wr wr0.heap.size 30 3 u10 cso ∧ RowsCs wr0 cso ((xs.take i).filter (fun x => usedB r.Ls x.name)) ∧ New wr0 wr) (fun _ u _ => nx - (intOf u).toNat)
    case atStart => exact ⟨0, [], Nat.zero_le _, rfl, Nat.le_refl _, Own.nil _ _ _ _, ⟨rfl, fun i cs h => by simp at h⟩, Chg.refl _ _⟩
    case round =>
      obtain ⟨i, cso, hin, rfl, hcl, hov, hro, hN⟩ := hrel
      have HOv := Lib.hid hov
      have HRo := Lib.hid hro
      have HNw := Lib.hid hN
      clear hov hro hN
      by_cases hlt : i < nx
      · obtain ⟨x, hx⟩ : ∃ x, xs[i]? = some x := ⟨_, List.getElem?_eq_getElem (by rw [Hnx.out]; exact hlt)⟩
        obtain ⟨xa, xc, rfl, hxat, hx3, hxrow⟩ := HSx.out.row hx
        obtain ⟨X2, x2, hxce, hlx1000, _⟩ := id hxrow
        have htf := filter_take (p := fun x => usedB r.Ls x.name) hx
        obtain ⟨lx, hlx⟩ : ∃ l, x.args.length = l := ⟨_, rfl⟩
        rw [hlx] at hxce
        subst hxce
        have hxn : wr0.cell? (xa.add (i * 3)) = some (.string x.name) := hxat 0 (.string x.name) rfl
        obtain ⟨bu, hbu⟩ : ∃ b, usedB r.Ls x.name = b := ⟨_, rfl⟩
        rw [hbu] at htf
        have Htf := Lib.hid htf
        have Hbu := Lib.hid hbu
        have HXn := Lib.hid hxn
        have HXat := Lib.hid hxat
        have HXrow := Lib.hid hxrow
        have i0 : (0 : Int) ≤ (i : Int) := by omega
        have i1 : (i : Int) < (nx : Int) := by omega
        clear hx hxat hxrow htf hxn hbu hlx
        have HBw := Lib.hid (HB4.out.chg HNw.out id)
        have HRw := Lib.hid (HR4.out.chg HNw.out)
        have e85 := HBw.out.cell 5
        simp only [List.getElem?_toArray, List.getElem?_cons_zero, List.getElem?_cons_succ] at e85
        go_wp2_with fail
        obtain ⟨wo, hwo⟩ : ∃ wo, wo = wr := ⟨_, rfl⟩
        subst hwo
        go_loopw [12, 13] (fun u12 u13 wq => ∃ k : Nat, k ≤ nb ∧ u13 = .int .i64 k ∧ u12 = .bool ((r.Ls.take k).any (useB x.name)) ∧ New wo wq) (fun _ u _ => nb - (intOf u).toNat)
        case atStart => exact ⟨0, Nat.zero_le _, rfl, rfl, Chg.refl _ _⟩
        case round =>
          obtain ⟨k, hk, rfl, rfl, hNq⟩ := hrel
          have HNq := Lib.hid hNq
          have e85q := HNq.out.cellS e85 id
          clear hNq
          by_cases hlk : k < nb
          · obtain ⟨L, hL⟩ : ∃ L, r.Ls[k]? = some L := ⟨_, List.getElem?_eq_getElem (by rw [Hnb.out]; exact hlk)⟩
            obtain ⟨la, A', c', rfl, hat⟩ := HRw.out.lit rfl hL
            have hat' := (hat.chg HNq.out id)
            have hnd : New wr wr.drew := (Chg.refl _ _).drew
            have hlk1 : wr.drew.cell? (la.add (k * 3)) = some (.int .i64 L.kind) := (hat'.chg hnd id) 0 _ rfl
            have hln1 := (hat'.chg hnd id) 1 (.string L.name) rfl
            rw [add_succ] at hln1
            obtain ⟨nm, hnm⟩ : ∃ b, (r.Ls.take k).any (useB x.name) = b := ⟨_, rfl⟩
            obtain ⟨bn, hbn⟩ : ∃ b, decide (L.name = x.name) = b := ⟨_, rfl⟩
            obtain ⟨kb, hkb⟩ : ∃ b, decide (L.kind ≤ 2) = b := ⟨_, rfl⟩
            have hbe : (L.name.toList == x.name.toList) = bn := by rw [nm_eq]; exact hbn
            have hnext : (r.Ls.take (k + 1)).any (useB x.name) = (nm || (bn && kb)) := by
              rw [any_take hL, hnm]
              show (nm || (decide (L.name = x.name) && decide (L.kind ≤ 2))) = _
              rw [hbn, hkb]
            obtain ⟨κ, hκ⟩ : ∃ κ, L.kind = κ := ⟨_, rfl⟩
            rw [hκ] at hlk1 hkb
            have HNext := Lib.hid hnext
            have Hlk1 := Lib.hid hlk1
            have Hln1 := Lib.hid hln1
            have HXd := Lib.hid ((HNw.out.trans (HNq.out.trans hnd (fun _ _ x => x)) (fun _ _ x => x)).cellS HXn.out id)
            have HEd := Lib.hid (hnd.cellS e85q id)
            have HNd := Lib.hid (HNq.out.trans hnd (fun _ _ x => x))
            have k0 : (0 : Int) ≤ (k : Int) := by omega
            have k1 : (k : Int) < (nb : Int) := by omega
            clear hat hat' hnd hlk1 hln1 hnext hκ hL
            rw [hnm]
            clear hnm hbn
            go_upto_region 14 with fail
            refine wp_region_at (by kernel_rfl) ?_
            generalize wr.drew = wd at Hlk1 Hln1 HXd HEd HNd ⊢
            cases nm with
            | true =>
              refine AtN.segQ2 0 2 (fun
                | 0 => .bool true
                | _ => .bool true)
                [(38, .bool true), (39, .bool true)] (by kernel_rfl) (by kernel_rfl) (by kernel_rfl) (by kernel_rfl) rfl (fun i hn hi o ho A0 hin hk => ?_) ?_
              · rcases (show i = 0 ∨ i = 1 by omega) with rfl | rfl
                · cases ho
                  exact exec_move 12 _ rfl (hk 12 (by kernel_rfl))
                · cases ho
                  exact exec_move 38 _ rfl (hin 0 38 (by kernel_rfl))
              simp only [putsL, Act.put, List.setIfInBounds_toArray, List.set_cons_succ, List.set_cons_zero]
              refine AtN.segS2 2 15 [(40, undef), (41, undef), (42, undef), (43, undef), (44, undef), (45, undef), (46, undef), (47, undef), (48, undef), (49, undef), (50, undef), (51, undef), (52, undef)] (by kernel_rfl) (by kernel_rfl) (by kernel_rfl) (by kernel_rfl) rfl ?_
              simp only [putsL, Act.put, List.setIfInBounds_toArray, List.set_cons_succ, List.set_cons_zero]
              refine AtN.segS2 15 22 [(53, undef), (54, undef), (55, undef), (56, undef), (57, undef), (58, undef), (59, undef)] (by kernel_rfl) (by kernel_rfl) (by kernel_rfl) (by kernel_rfl) rfl ?_
              simp only [putsL, Act.put, List.setIfInBounds_toArray, List.set_cons_succ, List.set_cons_zero]
              refine AtN.segS2 22 23 [(60, undef)] (by kernel_rfl) (by kernel_rfl) (by kernel_rfl) (by kernel_rfl) rfl ?_
              simp only [putsL, Act.put, List.setIfInBounds_toArray, List.set_cons_succ, List.set_cons_zero]
              refine AtN.segQ2 23 25 (fun
                | 23 => .bool true
                | _ => .bool true)
                [(61, .bool true), (12, .bool true)] (by kernel_rfl) (by kernel_rfl) (by kernel_rfl) (by kernel_rfl) rfl (fun i hn hi o ho A0 hin hk => ?_) ?_
              · rcases (show i = 23 ∨ i = 24 by omega) with rfl | rfl
                · cases ho
                  have h39 : A0.tmps[39]?.getD undef = .bool true := hk 39 (by kernel_rfl)
                  have h60 : A0.tmps[60]?.getD undef = undef := hk 60 (by kernel_rfl)
                  exact by simp [go_sem, h39, h60]
                · cases ho
                  have h61 : A0.tmps[61]?.getD undef = .bool true := hin 23 61 (by kernel_rfl)
                  exact by simp [go_sem, h61]
              simp only [putsL, Act.put, List.setIfInBounds_toArray, List.set_cons_succ, List.set_cons_zero]
              refine AtN.done rfl ?_
              clear hbe hkb
              go_wp2_with fail
              go_roundw
              case rel => exact ⟨k + 1, by omega, by go_num, by rw [HNext.out]; rfl, HNd.out⟩
              case measure => simp only [intOf]; omega
            | false =>
              cases bn with
              | false =>
                refine AtN.segQ2 0 2 (fun
                  | 0 => .bool false
                  | _ => .bool false)
                  [(38, .bool false), (39, .bool false)] (by kernel_rfl) (by kernel_rfl) (by kernel_rfl) (by kernel_rfl) rfl (fun i hn hi o ho A0 hin hk => ?_) ?_
                · rcases (show i = 0 ∨ i = 1 by omega) with rfl | rfl
                  · cases ho
                    exact exec_move 12 _ rfl (hk 12 (by kernel_rfl))
                  · cases ho
                    exact exec_move 38 _ rfl (hin 0 38 (by kernel_rfl))
                simp only [putsL, Act.put, List.setIfInBounds_toArray, List.set_cons_succ, List.set_cons_zero]
                refine AtN.segQ2 2 15 (fun
                  | 2 => .pointer (some ⟨b8, 5, none⟩)
                  | 3 => .slice (some la) nb cb
                  | 4 => .int .i64 k
                  | 5 => .pointer (some (la.add (k * 3)))
                  | 6 => .pointer (some ⟨(la.add (k * 3)).block, (la.add (k * 3)).off + 1, none⟩)
                  | 7 => .string L.name
                  | 8 => .slice (some xa) nx cx
                  | 9 => .int .i64 i
                  | 10 => .pointer (some (xa.add (i * 3)))
                  | 11 => .pointer (some (xa.add (i * 3)))
                  | 12 => .string x.name
                  | 13 => .bool false
                  | _ => .bool false)
                  [(40, .pointer (some ⟨b8, 5, none⟩)), (41, .slice (some la) nb cb), (42, .int .i64 k), (43, .pointer (some (la.add (k * 3)))), (44, .pointer (some ⟨(la.add (k * 3)).block, (la.add (k * 3)).off + 1, none⟩)), (45, .string L.name), (46, .slice (some xa) nx cx), (47, .int .i64 i), (48, .pointer (some (xa.add (i * 3)))), (49, .pointer (some (xa.add (i * 3)))), (50, .string x.name), (51, .bool false), (52, .bool false)] (by kernel_rfl) (by kernel_rfl) (by kernel_rfl) (by kernel_rfl) rfl (fun i hn hi o ho A0 hin hk => ?_) ?_
                · rcases (show i = 2 ∨ i = 3 ∨ i = 4 ∨ i = 5 ∨ i = 6 ∨ i = 7 ∨ i = 8 ∨ i = 9 ∨ i = 10 ∨ i = 11 ∨ i = 12 ∨ i = 13 ∨ i = 14 by omega) with rfl | rfl | rfl | rfl | rfl | rfl | rfl | rfl | rfl | rfl | rfl | rfl | rfl
                  · cases ho
                    have h8 : A0.tmps[8]?.getD undef = .pointer (some ⟨b8, 0, none⟩) := hk 8 (by kernel_rfl)
                    exact by simp [go_sem, h8]
                  · cases ho
                    have h40 : A0.tmps[40]?.getD undef = .pointer (some ⟨b8, 5, none⟩) := hin 2 40 (by kernel_rfl)
                    exact by simp [go_sem, h40, HEd.out]
                  · cases ho
                    exact exec_move 13 _ rfl (hk 13 (by kernel_rfl))
                  · cases ho
                    have h41 : A0.tmps[41]?.getD undef = .slice (some la) nb cb := hin 3 41 (by kernel_rfl)
                    have h42 : A0.tmps[42]?.getD undef = .int .i64 k := hin 4 42 (by kernel_rfl)
                    exact by simp [go_sem, h41, h42, k0, k1, hlk]
                  · cases ho
                    have h43 : A0.tmps[43]?.getD undef = .pointer (some (la.add (k * 3))) := hin 5 43 (by kernel_rfl)
                    exact by simp [go_sem, h43]
                  · cases ho
                    have h44 : A0.tmps[44]?.getD undef = .pointer (some ⟨(la.add (k * 3)).block, (la.add (k * 3)).off + 1, none⟩) := hin 6 44 (by kernel_rfl)
                    exact by simp [go_sem, h44, Hln1.out]
                  · cases ho
                    exact exec_move 9 _ rfl (hk 9 (by kernel_rfl))
                  · cases ho
                    exact exec_move 11 _ rfl (hk 11 (by kernel_rfl))
                  · cases ho
                    have h46 : A0.tmps[46]?.getD undef = .slice (some xa) nx cx := hin 8 46 (by kernel_rfl)
                    have h47 : A0.tmps[47]?.getD undef = .int .i64 i := hin 9 47 (by kernel_rfl)
                    exact by simp [go_sem, h46, h47, i0, i1, hlt]
                  · cases ho
                    have h48 : A0.tmps[48]?.getD undef = .pointer (some (xa.add (i * 3))) := hin 10 48 (by kernel_rfl)
                    exact by simp [go_sem, h48]
                  · cases ho
                    have h49 : A0.tmps[49]?.getD undef = .pointer (some (xa.add (i * 3))) := hin 11 49 (by kernel_rfl)
                    exact by simp [go_sem, h49, HXd.out]
                  · cases ho
                    have h45 : A0.tmps[45]?.getD undef = .string L.name := hin 7 45 (by kernel_rfl)
                    have h50 : A0.tmps[50]?.getD undef = .string x.name := hin 12 50 (by kernel_rfl)
                    exact by simp [go_sem, h45, h50, hbe]
                  · cases ho
                    exact exec_move 51 _ rfl (hin 13 51 (by kernel_rfl))
                simp only [putsL, Act.put, List.setIfInBounds_toArray, List.set_cons_succ, List.set_cons_zero]
                refine AtN.segS2 15 22 [(53, undef), (54, undef), (55, undef), (56, undef), (57, undef), (58, undef), (59, undef)] (by kernel_rfl) (by kernel_rfl) (by kernel_rfl) (by kernel_rfl) rfl ?_
                simp only [putsL, Act.put, List.setIfInBounds_toArray, List.set_cons_succ, List.set_cons_zero]
                refine AtN.segQ2 22 25 (fun
                  | 22 => .bool false
                  | 23 => .bool false
                  | _ => .bool false)
                  [(60, .bool false), (61, .bool false), (12, .bool false)] (by kernel_rfl) (by kernel_rfl) (by kernel_rfl) (by kernel_rfl) rfl (fun i hn hi o ho A0 hin hk => ?_) ?_
                · rcases (show i = 22 ∨ i = 23 ∨ i = 24 by omega) with rfl | rfl | rfl
                  · cases ho
                    have h52 : A0.tmps[52]?.getD undef = .bool false := hk 52 (by kernel_rfl)
                    have h59 : A0.tmps[59]?.getD undef = undef := hk 59 (by kernel_rfl)
                    exact by simp [go_sem, h52, h59]
                  · cases ho
                    have h39 : A0.tmps[39]?.getD undef = .bool false := hk 39 (by kernel_rfl)
                    have h60 : A0.tmps[60]?.getD undef = .bool false := hin 22 60 (by kernel_rfl)
                    exact by simp [go_sem, h39, h60]
                  · cases ho
                    have h61 : A0.tmps[61]?.getD undef = .bool false := hin 23 61 (by kernel_rfl)
                    exact by simp [go_sem, h61]
                simp only [putsL, Act.put, List.setIfInBounds_toArray, List.set_cons_succ, List.set_cons_zero]
                refine AtN.done rfl ?_
                clear hbe hkb
                go_wp2_with fail
                go_roundw
                case rel => exact ⟨k + 1, by omega, by go_num, by rw [HNext.out]; rfl, HNd.out⟩
                case measure => simp only [intOf]; omega
              | true =>
                refine AtN.segQ2 0 2 (fun
                  | 0 => .bool false
                  | _ => .bool false)
                  [(38, .bool false), (39, .bool false)] (by kernel_rfl) (by kernel_rfl) (by kernel_rfl) (by kernel_rfl) rfl (fun i hn hi o ho A0 hin hk => ?_) ?_
                · rcases (show i = 0 ∨ i = 1 by omega) with rfl | rfl
                  · cases ho
                    exact exec_move 12 _ rfl (hk 12 (by kernel_rfl))
                  · cases ho
                    exact exec_move 38 _ rfl (hin 0 38 (by kernel_rfl))
                simp only [putsL, Act.put, List.setIfInBounds_toArray, List.set_cons_succ, List.set_cons_zero]
                refine AtN.segQ2 2 15 (fun
                  | 2 => .pointer (some ⟨b8, 5, none⟩)
                  | 3 => .slice (some la) nb cb
                  | 4 => .int .i64 k
                  | 5 => .pointer (some (la.add (k * 3)))
                  | 6 => .pointer (some ⟨(la.add (k * 3)).block, (la.add (k * 3)).off + 1, none⟩)
                  | 7 => .string L.name
                  | 8 => .slice (some xa) nx cx
                  | 9 => .int .i64 i
                  | 10 => .pointer (some (xa.add (i * 3)))
                  | 11 => .pointer (some (xa.add (i * 3)))
                  | 12 => .string x.name
                  | 13 => .bool true
                  | _ => .bool true)
                  [(40, .pointer (some ⟨b8, 5, none⟩)), (41, .slice (some la) nb cb), (42, .int .i64 k), (43, .pointer (some (la.add (k * 3)))), (44, .pointer (some ⟨(la.add (k * 3)).block, (la.add (k * 3)).off + 1, none⟩)), (45, .string L.name), (46, .slice (some xa) nx cx), (47, .int .i64 i), (48, .pointer (some (xa.add (i * 3)))), (49, .pointer (some (xa.add (i * 3)))), (50, .string x.name), (51, .bool true), (52, .bool true)] (by kernel_rfl) (by kernel_rfl) (by kernel_rfl) (by kernel_rfl) rfl (fun i hn hi o ho A0 hin hk => ?_) ?_
                · rcases (show i = 2 ∨ i = 3 ∨ i = 4 ∨ i = 5 ∨ i = 6 ∨ i = 7 ∨ i = 8 ∨ i = 9 ∨ i = 10 ∨ i = 11 ∨ i = 12 ∨ i = 13 ∨ i = 14 by omega) with rfl | rfl | rfl | rfl | rfl | rfl | rfl | rfl | rfl | rfl | rfl | rfl | rfl
                  · cases ho
                    have h8 : A0.tmps[8]?.getD undef = .pointer (some ⟨b8, 0, none⟩) := hk 8 (by kernel_rfl)
                    exact by simp [go_sem, h8]
                  · cases ho
                    have h40 : A0.tmps[40]?.getD undef = .pointer (some ⟨b8, 5, none⟩) := hin 2 40 (by kernel_rfl)
                    exact by simp [go_sem, h40, HEd.out]
                  · cases ho
                    exact exec_move 13 _ rfl (hk 13 (by kernel_rfl))
                  · cases ho
                    have h41 : A0.tmps[41]?.getD undef = .slice (some la) nb cb := hin 3 41 (by kernel_rfl)
                    have h42 : A0.tmps[42]?.getD undef = .int .i64 k := hin 4 42 (by kernel_rfl)
                    exact by simp [go_sem, h41, h42, k0, k1, hlk]
                  · cases ho
                    have h43 : A0.tmps[43]?.getD undef = .pointer (some (la.add (k * 3))) := hin 5 43 (by kernel_rfl)
                    exact by simp [go_sem, h43]
                  · cases ho
                    have h44 : A0.tmps[44]?.getD undef = .pointer (some ⟨(la.add (k * 3)).block, (la.add (k * 3)).off + 1, none⟩) := hin 6 44 (by kernel_rfl)
                    exact by simp [go_sem, h44, Hln1.out]
                  · cases ho
                    exact exec_move 9 _ rfl (hk 9 (by kernel_rfl))
                  · cases ho
                    exact exec_move 11 _ rfl (hk 11 (by kernel_rfl))
                  · cases ho
                    have h46 : A0.tmps[46]?.getD undef = .slice (some xa) nx cx := hin 8 46 (by kernel_rfl)
                    have h47 : A0.tmps[47]?.getD undef = .int .i64 i := hin 9 47 (by kernel_rfl)
                    exact by simp [go_sem, h46, h47, i0, i1, hlt]
                  · cases ho
                    have h48 : A0.tmps[48]?.getD undef = .pointer (some (xa.add (i * 3))) := hin 10 48 (by kernel_rfl)
                    exact by simp [go_sem, h48]
                  · cases ho
                    have h49 : A0.tmps[49]?.getD undef = .pointer (some (xa.add (i * 3))) := hin 11 49 (by kernel_rfl)
                    exact by simp [go_sem, h49, HXd.out]
                  · cases ho
                    have h45 : A0.tmps[45]?.getD undef = .string L.name := hin 7 45 (by kernel_rfl)
                    have h50 : A0.tmps[50]?.getD undef = .string x.name := hin 12 50 (by kernel_rfl)
                    exact by simp [go_sem, h45, h50, hbe]
                  · cases ho
                    exact exec_move 51 _ rfl (hin 13 51 (by kernel_rfl))
                simp only [putsL, Act.put, List.setIfInBounds_toArray, List.set_cons_succ, List.set_cons_zero]
                refine AtN.segQ2 15 25 (fun
                  | 15 => .pointer (some ⟨b8, 5, none⟩)
                  | 16 => .slice (some la) nb cb
                  | 17 => .int .i64 k
                  | 18 => .pointer (some (la.add (k * 3)))
                  | 19 => .pointer (some (la.add (k * 3)))
                  | 20 => .int .i64 κ
                  | 21 => .bool kb
                  | 22 => .bool kb
                  | 23 => .bool kb
                  | _ => .bool kb)
                  [(53, .pointer (some ⟨b8, 5, none⟩)), (54, .slice (some la) nb cb), (55, .int .i64 k), (56, .pointer (some (la.add (k * 3)))), (57, .pointer (some (la.add (k * 3)))), (58, .int .i64 κ), (59, .bool kb), (60, .bool kb), (61, .bool kb), (12, .bool kb)] (by kernel_rfl) (by kernel_rfl) (by kernel_rfl) (by kernel_rfl) rfl (fun i hn hi o ho A0 hin hk => ?_) ?_
                · rcases (show i = 15 ∨ i = 16 ∨ i = 17 ∨ i = 18 ∨ i = 19 ∨ i = 20 ∨ i = 21 ∨ i = 22 ∨ i = 23 ∨ i = 24 by omega) with rfl | rfl | rfl | rfl | rfl | rfl | rfl | rfl | rfl | rfl
                  · cases ho
                    have h8 : A0.tmps[8]?.getD undef = .pointer (some ⟨b8, 0, none⟩) := hk 8 (by kernel_rfl)
                    exact by simp [go_sem, h8]
                  · cases ho
                    have h53 : A0.tmps[53]?.getD undef = .pointer (some ⟨b8, 5, none⟩) := hin 15 53 (by kernel_rfl)
                    exact by simp [go_sem, h53, HEd.out]
                  · cases ho
                    exact exec_move 13 _ rfl (hk 13 (by kernel_rfl))
                  · cases ho
                    have h54 : A0.tmps[54]?.getD undef = .slice (some la) nb cb := hin 16 54 (by kernel_rfl)
                    have h55 : A0.tmps[55]?.getD undef = .int .i64 k := hin 17 55 (by kernel_rfl)
                    exact by simp [go_sem, h54, h55, k0, k1, hlk]
                  · cases ho
                    have h56 : A0.tmps[56]?.getD undef = .pointer (some (la.add (k * 3))) := hin 18 56 (by kernel_rfl)
                    exact by simp [go_sem, h56]
                  · cases ho
                    have h57 : A0.tmps[57]?.getD undef = .pointer (some (la.add (k * 3))) := hin 19 57 (by kernel_rfl)
                    exact by simp [go_sem, h57, Hlk1.out]
                  · cases ho
                    have h58 : A0.tmps[58]?.getD undef = .int .i64 κ := hin 20 58 (by kernel_rfl)
                    exact by simp [go_sem, h58, hkb]
                  · cases ho
                    have h52 : A0.tmps[52]?.getD undef = .bool true := hk 52 (by kernel_rfl)
                    have h59 : A0.tmps[59]?.getD undef = .bool kb := hin 21 59 (by kernel_rfl)
                    exact by simp [go_sem, h52, h59]
                  · cases ho
                    have h39 : A0.tmps[39]?.getD undef = .bool false := hk 39 (by kernel_rfl)
                    have h60 : A0.tmps[60]?.getD undef = .bool kb := hin 22 60 (by kernel_rfl)
                    exact by simp [go_sem, h39, h60]
                  · cases ho
                    have h61 : A0.tmps[61]?.getD undef = .bool kb := hin 23 61 (by kernel_rfl)
                    exact by simp [go_sem, h61]
                simp only [putsL, Act.put, List.setIfInBounds_toArray, List.set_cons_succ, List.set_cons_zero]
                refine AtN.done rfl ?_
                clear hbe hkb
                go_wp2_with fail
                go_roundw
                case rel => exact ⟨k + 1, by omega, by go_num, by rw [HNext.out]; rfl, HNd.out⟩
                case measure => simp only [intOf]; omega
          · have hany : (r.Ls.take k).any (useB x.name) = bu := by
              rw [List.take_of_length_le (by rw [Hnb.out]; omega), use_any]
              exact Hbu.out
            rw [hany]
            have HOd := Lib.hid (HOv.out.chg HNq.out (fun _ _ x => x))
            have HNd := Lib.hid (HNw.out.trans HNq.out (fun _ _ x => x))
            clear hany HBw HRw e85 HNw HOv
            cases bu with
            | false =>
              have HR2 := Lib.hid (show RowsCs wr0 cso ((xs.take (i + 1)).filter (fun x => usedB r.Ls x.name)) by rw [Htf.out]; simp only [Bool.false_eq_true, if_false, List.append_nil]; exact HRo.out)
              go_wp2_with fail
              go_roundw
              case rel => exact ⟨i + 1, cso, by omega, by go_num, by omega, HOd.out, HR2.out, HNd.out⟩
              case measure => simp only [intOf]; omega
            | true =>
              have HR2 := Lib.hid (show RowsCs wr0 (cso ++ [[.string x.name, .slice X2 lx x2, .int .i64 x.stamp]]) ((xs.take (i + 1)).filter (fun x => usedB r.Ls x.name)) by rw [Htf.out]; simp only [if_true]; exact HRo.out.snoc HXrow.out)
              have HApp := Lib.hid (elRow.appOne HOd.out HNd.out.size [.string x.name, .slice X2 lx x2, .int .i64 x.stamp] rfl HXrow.out.cs.2 (by omega) (by unfold maxLen; omega) 24 wr.heap.size rfl)
              have Hat5 := Lib.hid (HXat.out.chg HNd.out id)
              obtain ⟨v', W', hrun, hown, hchg, hblk⟩ := HApp.out
              have HN5 := Lib.hid (HNd.out.trans hchg (fun q hq h => absurd ((HOd.out.lt h).1) (by omega)))
              have HO5 := Lib.hid hown
              have Hrun := Lib.hid hrun
              clear HApp hrun hown hchg hblk HOd
              go_wp2_with first
                | ((with_reducible refine wpl_load rfl (.tmp 66) 30 rfl stRow (xa.add (i * 3)) [.string x.name, .slice X2 lx x2, .int .i64 x.stamp] ?_ rfl Hat5.out ?_); exact rfl)
                | ((with_reducible refine wpl_append rfl (.tmp 63) (.tmp 68) 24 24 rfl ?_ ?_ Hrun.out ?_); exact rfl; exact rfl)
              go_roundw
              case rel => exact ⟨i + 1, _, by omega, by go_num, by simp; omega, HO5.out, HR2.out, HN5.out⟩
              case measure => simp only [intOf]; omega
      · have HF := Lib.hid (show RowsCs wr0 cso (xs.filter (fun x => usedB r.Ls x.name)) by have := HRo.out; rw [List.take_of_length_le (by rw [Hnx.out]; omega)] at this; exact this)
        have hfl : (xs.filter (fun x => usedB r.Ls x.name)).length = cso.length := HF.out.1.symm
        have hc16 : cso.length ≤ 16 := by omega
        clear HRo
        have hys := HOv.out.rowSl (HF.out.chg HNw.out) (by omega)
        obtain ⟨ys0, hys0⟩ : ∃ ys, xs.filter (fun x => usedB r.Ls x.name) = ys := ⟨_, rfl⟩
        rw [hys0] at hys hfl
        obtain ⟨Ay, cy, rfl, _⟩ := hys.form
        obtain ⟨ny, hny⟩ : ∃ n, ys0.length = n := ⟨_, rfl⟩
        rw [hny] at hys hfl ⊢
        have Hny := Lib.hid hny
        have Hys0 := Lib.hid hys0
        have HYs := Lib.hid hys
        have hny16 : ny ≤ 16 := by omega
        have HBw := Lib.hid (HB4.out.chg HNw.out id)
        have HRw := Lib.hid (HR4.out.chg HNw.out)
        have HSw := Lib.hid (HSx.out.chg HNw.out)
        have HNe := Lib.hid (HN4.out.trans HNw.out (fun _ _ x => x))
        clear hny hys0 hys HOv HF hfl hc16 HB4 HR4 HSx HN4 HNw hcl
        obtain ⟨wo, hwo⟩ : ∃ wo, wo = wr := ⟨_, rfl⟩
        subst hwo
        go_upto_if 72 with fail
        go_cut [10, 14] from 72 to 85 (fun u u14 wx => ∃ ys : List Rw, (∀ x, x ∈ ys ↔ x ∈ ys0) ∧ RowSl wx u ys ∧ New wo wx)
        case first =>
          by_cases h0 : ny = 0
          · have t0 : decide ((0 : Int) < (ny : Int)) = false := by simp; omega
            have t0' : decide (0 < ny) = false := by simp; omega
            go_wp2_with fail
            go_meet
            exact ⟨ys0, fun _ => Iff.rfl, HYs.out, Chg.refl _ _⟩
          · have t0 : decide ((0 : Int) < (ny : Int)) = true := by simp; omega
            have t0' : decide (0 < ny) = true := by simp; omega
            obtain ⟨q, hq⟩ : ∃ q : Nat, pk c2 ny = q := ⟨(pk c2 ny).toNat, by have := pk_lo c2 ny (by omega); omega⟩
            have hqn : q < ny := by have := pk_hi c2 ny (by omega); omega
            have hp2 := fun W => pick10 W c2 ny h20 h21 (by omega) (by omega)
            rw [hq] at hp2
            have HP2 := Lib.hid hp2
            obtain ⟨y0, hy0⟩ : ∃ y, ys0[q]? = some y := ⟨_, List.getElem?_eq_getElem (by rw [Hny.out]; exact hqn)⟩
            obtain ⟨la, yc, rfl, _, _, _⟩ := HYs.out.row hy0
            obtain ⟨css, hcss⟩ := HYs.out.cells
            have hncap : ny ≤ cy := by
              obtain ⟨A', c', e, _, h3, _⟩ := hcss
              simp only [Value.slice.injEq] at e
              have := Hny.out
              omega
            have HCs := Lib.hid hcss
            clear hp2 hq hy0 hcss
            go_upto_region 19 with (go_at_call 14; refine (HP2.out _).mono ?_; rintro e w' ⟨rfl, rfl⟩)
            refine wp_region_at (by kernel_rfl) ?_
            have hnd : New wo wo.drew := (Chg.refl _ _).drew
            have HCs4 := Lib.hid (HCs.out.chg hnd)
            have HN4 := Lib.hid hnd
            clear hnd HCs
            generalize wo.drew = wd at HCs4 HN4 ⊢
            have p0 : (0 : Int) ≤ (q : Int) := by omega
            have p1 : (q : Int) ≤ (ny : Int) := by omega
            have p2 : (q : Int) ≤ (cy : Int) := by omega
            have p3 : q ≤ ny := by omega
            have p4 : ¬ (cy = q) := by omega
            have p5 : (ny : Int) ≤ (cy : Int) := by omega
            have p6 : q ≤ cy := by omega
            refine AtN.segF 0 8 0 [77, 78, 79, 80, 81, 82, 83, 84] (fun _ => False) (fun
                | 3 => true
                | 7 => true
                | _ => false) (fun
                | 3 => 7
                | _ => 999) (fun
                | 0 => fun v _ => v = .slice (some la) ny cy
                | 1 => fun v _ => v = .int .i64 q
                | 2 => fun v _ => v = .slice (some (la.add (q * 3))) (ny - q) (cy - q)
                | 3 => fun u W => Own W wd.heap.size 30 3 u (css.drop q)
                | 4 => fun v _ => v = .slice (some la) ny cy
                | 5 => fun v _ => v = .int .i64 q
                | 6 => fun v _ => v = .slice (some la) q cy
                | 7 => fun u W => Own W wd.heap.size 30 3 u (css.drop q ++ css.take q)
                | _ => fun _ _ => True : Nat → Value → World → Prop) (by kernel_rfl) (by kernel_rfl) (by kernel_rfl) (by kernel_rfl) (by kernel_rfl) (fun g hg => hg.elim) (fun k u W1 W2 T' h hc ht hT => ?_) (fun i hn hi o ho A0 W b hJ hμ hin hkp hcn => ?_) (fun l W3 hN hl hΦ hap => ?_)
            · match k with
              | 3 => exact h.chg hc (fun g hg => ht rfl g (fpv_own hg))
              | 7 => exact h.chg hc (fun g hg => ht rfl g (fpv_own hg))
              | 0 | 1 | 2 | 4 | 5 | 6 => exact h
              | _ + 8 => trivial
            · rcases (show i = 0 ∨ i = 1 ∨ i = 2 ∨ i = 3 ∨ i = 4 ∨ i = 5 ∨ i = 6 ∨ i = 7 by omega) with rfl | rfl | rfl | rfl | rfl | rfl | rfl | rfl
              · cases ho
                refine .new rfl ?_
                exact .same (exec_move 10 (.slice (some la) ny cy) rfl (hkp 10 (by kernel_rfl))) rfl
              · cases ho
                refine .new rfl ?_
                exact .same (exec_move 14 (.int .i64 q) rfl (hkp 14 (by kernel_rfl))) rfl
              · cases ho
                have h77 : A0.tmps[77]?.getD undef = .slice (some la) ny cy := hin 0 77 (by kernel_rfl)
                have h78 : A0.tmps[78]?.getD undef = .int .i64 q := hin 1 78 (by kernel_rfl)
                refine .new rfl ?_
                exact .same (v := .slice (some (la.add (q * 3))) (ny - q) (cy - q)) (by simp [go_sem, h77, h78, p0, p1, p2, p3, p4, p5, p6]) rfl
              · cases ho
                have h79 : A0.tmps[79]?.getD undef = .slice (some (la.add (q * 3))) (ny - q) (cy - q) := hin 2 79 (by kernel_rfl)
                obtain ⟨v1, W', hrun, hown, hchg, hblk⟩ := append_sl (Own.nil W wd.heap.size 30 3) hJ.1.size ((HCs4.out.drop hqn).chg hJ.1) (by simp) 24
                rw [List.nil_append] at hown
                refine GivesF.value _ (exec_append _ _ _ _ rfl (by simp [Act.eval]) (by simpa [Act.eval] using h79) hrun) hown hchg (fun g _ hg => by cases hg) (fun g hg => ?_)
                rw [hown.fpv] at hg
                exact ⟨(hown.lt hg).2, (hblk g hg).elim (fun h => by cases h) (fun h => .inr (.inl h))⟩
              · cases ho
                refine .new rfl ?_
                exact .same (exec_move 10 (.slice (some la) ny cy) rfl (hkp 10 (by kernel_rfl))) rfl
              · cases ho
                refine .new rfl ?_
                exact .same (exec_move 14 (.int .i64 q) rfl (hkp 14 (by kernel_rfl))) rfl
              · cases ho
                have h81 : A0.tmps[81]?.getD undef = .slice (some la) ny cy := hin 4 81 (by kernel_rfl)
                have h82 : A0.tmps[82]?.getD undef = .int .i64 q := hin 5 82 (by kernel_rfl)
                refine .new rfl ?_
                exact .same (v := .slice (some la) q cy) (by simp [go_sem, h81, h82, p0, p1, p2, p3, p4, p5, p6]) rfl
              · cases ho
                have h80 : (fun u W => Own W wd.heap.size 30 3 u (css.drop q) : Value → World → Prop) (A0.tmps[80]?.getD undef) W := hin 3 80 (by kernel_rfl)
                have h83 : A0.tmps[83]?.getD undef = .slice (some la) q cy := hin 6 83 (by kernel_rfl)
                obtain ⟨v1, W', hrun, hown, hchg, hblk⟩ := append_sl h80 hJ.1.size ((HCs4.out.take (by omega)).chg hJ.1) (by
                  rw [List.length_drop]
                  have h9 := HCs4.out.cs.1
                  have h8 := Hny.out
                  omega) 24
                refine GivesF.value _ (exec_append _ _ _ _ rfl (by simp [Act.eval]) (by simpa [Act.eval] using h83) hrun) hown hchg (fun g _ hg => .inl ⟨3, 80, by kernel_rfl, fpv_own hg⟩) (fun g hg => ?_)
                rw [hown.fpv] at hg
                exact ⟨(hown.lt hg).2, (hblk g hg).elim (fun h => .inl ⟨3, 80, by kernel_rfl, fpv_own h⟩) (fun h => .inr (.inl h))⟩
            obtain ⟨x77, x78, x79, x80, x81, x82, x83, x84, rfl⟩ : ∃ x77 x78 x79 x80 x81 x82 x83 x84, l = [x77, x78, x79, x80, x81, x82, x83, x84] := by
              match l, hl with
              | [x77, x78, x79, x80, x81, x82, x83, x84], _ => exact ⟨_, _, _, _, _, _, _, _, rfl⟩
            obtain rfl : x77 = .slice (some la) ny cy := hΦ 0 (by decide) (by decide)
            obtain rfl : x78 = .int .i64 q := hΦ 1 (by decide) (by decide)
            obtain rfl : x79 = .slice (some (la.add (q * 3))) (ny - q) (cy - q) := hΦ 2 (by decide) (by decide)
            obtain rfl : x81 = .slice (some la) ny cy := hΦ 4 (by decide) (by decide)
            obtain rfl : x82 = .int .i64 q := hΦ 5 (by decide) (by decide)
            obtain rfl : x83 = .slice (some la) q cy := hΦ 6 (by decide) (by decide)
            have hx84 : (fun u W => Own W wd.heap.size 30 3 u (css.drop q ++ css.take q) : Value → World → Prop) x84 W3 := hΦ 7 (by decide) (by decide)
            simp only [putsL, List.zip_cons_cons, List.zip_nil_left, List.zip_nil_right, List.zip, List.zipWith, Act.put, List.setIfInBounds_toArray, List.set_cons_succ, List.set_cons_zero]
            clear hΦ hl
            have hx10 : RowSl W3 x84 (ys0.drop q ++ ys0.take q) := hx84.rowSl (((HCs4.out.drop hqn).cs.app (HCs4.out.take (by omega)).cs).chg hN) (by
              rw [List.length_append, List.length_drop, List.length_take]
              have h8 := Hny.out
              omega)
            refine AtN.list 8 9 (by kernel_rfl) ?_
            change wpList _ _ _ [_] _ _
            go_wp2_with fail
            change AtN _ _ _ 9 _ _
            refine AtN.done rfl ?_
            go_wp2_with fail
            go_meet
            exact ⟨ys0.drop q ++ ys0.take q, fun x => (turn_mem q x).symm, hx10, HN4.out.trans hN (fun _ _ x => x)⟩
        case rest =>
          obtain ⟨ys, hym, hysl, hNc⟩ := hcut
          obtain ⟨Az, cz, rfl, _⟩ := hysl.form
          obtain ⟨nz, hnz⟩ : ∃ n, ys.length = n := ⟨_, rfl⟩
          have hz16 : ∀ m, IsMerge ys m → m.length ≤ 30 := fun m hm => by
            have hm0 : IsMerge ys0 m := merge_same hym hm
            exact merge_len hm0 30 (by rw [Hny.out]; omega)
          rw [hnz] at hysl ⊢
          have hrawx : ∀ x ∈ xs, ∀ u ∈ x.args, rawV u := fun x hx => (HGx.out x hx).raw
          have hrawy : ∀ x ∈ ys, ∀ u ∈ x.args, rawV u := fun x hx => by
            have h1 := (hym x).1 hx
            rw [← Hys0.out] at h1
            exact hrawx x (List.mem_filter.1 h1).1
          have hcanx := ok_canon (raw_ok hrawx)
          have hym' : ∀ x, x ∈ ys ↔ x ∈ xs.filter (fun x => usedB r.Ls x.name) := fun x => by rw [Hys0.out]; exact hym x
          have hrc := HRw.out.chg hNc
          have hsc := HSw.out.chg hNc
          have HFx := Lib.hid (fun W (hW : New wc W) => fire_sl W (.agg #[.string lab, .string r.h, .slice A r.ts.length c, .string r.agg, .int .i64 r.at', .slice Ab nb cb]) (.slice A4 nx cx) r (hrc.chg hW) HRaw.out xs (hsc.chg hW) hrawx 0 (fun m hm => merge_len hm 30 (by rw [Hnx.out]; omega)))
          have HFy := Lib.hid (fun W (hW : New wc W) => fire_sl W (.agg #[.string lab, .string r.h, .slice A r.ts.length c, .string r.agg, .int .i64 r.at', .slice Ab nb cb]) (.slice Az nz cz) r (hrc.chg hW) HRaw.out ys (hysl.chg hW) hrawy 0 hz16)
          have hsame : ∀ m o m' o', IsMerge xs m → IsMerge (fireR r m) o → IsMerge ys m' → IsMerge (fireR r m') o' → o' = o := fun m o m' o' h1 h2 h3 h4 => by
            have he : fireR r m = fireR r m' := fire_others hcanx hym' h1 h3
            rw [← he] at h4
            exact merge_uniq (ok_canon (fire_ok HRaw.out.okT HRaw.out.okL (merge_ok h1 (raw_ok hrawx)))) h4 h2
          have HSame := Lib.hid hsame
          have HBc := Lib.hid (HBw.out.chg hNc id)
          have HNf := Lib.hid (HNe.out.trans hNc (fun _ _ x => x))
          clear hsame hrc hsc hrawx hrawy hcanx hym hym' hysl hz16 hnz hNc HBw HRw HSw HNe HYs HGx
          have eg13 : ∀ (args : Array Value) (w : World), (callFunc 13 args).run Try.prog w = .ok (.enter 13 args) w := enters_of Try.func13 (by kernel_rfl) rfl
          have eg11 : ∀ (args : Array Value) (w : World), (callFunc 11 args).run Try.prog w = .ok (.enter 11 args) w := enters_of Try.func11 (by kernel_rfl) rfl
          go_upto_region 20 with fail
          refine wp_region_at (by kernel_rfl) ?_
          have hnd : New wc wc.drew := (Chg.refl _ _).drew
          have HNd := Lib.hid hnd
          have HBd := Lib.hid (HBc.out.chg hnd id)
          clear hnd HBc
          generalize wc.drew = wd at HNd HBd ⊢
          refine AtN.segQ2 0 2 (fun
            | 0 => .bool true
            | _ => .bool true)
            [(85, .bool true), (86, .bool true)] (by kernel_rfl) (by kernel_rfl) (by kernel_rfl) (by kernel_rfl) rfl (fun i hn hi o ho A0 hin hk => ?_) ?_
          · rcases (show i = 0 ∨ i = 1 by omega) with rfl | rfl
            · cases ho
              exact exec_move 7 _ rfl (hk 7 (by kernel_rfl))
            · cases ho
              exact exec_move 85 _ rfl (hin 0 85 (by kernel_rfl))
          simp only [putsL, Act.put, List.setIfInBounds_toArray, List.set_cons_succ, List.set_cons_zero]
          refine AtN.segN2 2 11 [87, 88, 89, 90, 91, 92, 93, 94, 6] (fun
            | 2 => fun v _ => v = .agg #[.string lab, .string r.h, .slice A r.ts.length c, .string r.agg, .int .i64 r.at', .slice Ab nb cb]
            | 3 => fun v _ => v = .slice A4 nx cx
            | 4 => fun v W => ∃ m o, IsMerge xs m ∧ IsMerge (fireR r m) o ∧ RowSl W v o
            | 5 => fun v _ => v = .agg #[.string lab, .string r.h, .slice A r.ts.length c, .string r.agg, .int .i64 r.at', .slice Ab nb cb]
            | 6 => fun v _ => v = .slice Az nz cz
            | 7 => fun v W => ∃ m o, IsMerge ys m ∧ IsMerge (fireR r m) o ∧ RowSl W v o
            | 8 => fun v _ => v = .bool true
            | 9 => fun v _ => v = .bool true
            | 10 => fun v _ => v = .bool true
            | _ => fun _ _ => True) (by kernel_rfl) (by kernel_rfl) (by kernel_rfl) (by kernel_rfl) (fun j v w1 w2 hc h => ?_) (fun i hn hi o ho A0 W hN hin hk => ?_) (fun l W3 hN hl hΦ => ?_)
          · match j with
            | 4 => exact h.imp fun m h => h.imp fun o h => ⟨h.1, h.2.1, h.2.2.chg hc⟩
            | 7 => exact h.imp fun m h => h.imp fun o h => ⟨h.1, h.2.1, h.2.2.chg hc⟩
            | 2 | 3 | 5 | 6 | 8 | 9 | 10 => exact h
            | 0 | 1 => trivial
            | _ + 11 => trivial
          · rcases (show i = 2 ∨ i = 3 ∨ i = 4 ∨ i = 5 ∨ i = 6 ∨ i = 7 ∨ i = 8 ∨ i = 9 ∨ i = 10 by omega) with rfl | rfl | rfl | rfl | rfl | rfl | rfl | rfl | rfl
            · cases ho
              have h8 : A0.tmps[8]?.getD undef = .pointer (some ⟨b8, 0, none⟩) := hk 8 (by kernel_rfl)
              exact .same (exec_load 8 _ rfl stRule ⟨b8, 0, none⟩ [.string lab, .string r.h, .slice A r.ts.length c, .string r.agg, .int .i64 r.at', .slice Ab nb cb] h8 rfl (HBd.out.chg hN id).at_) rfl
            · cases ho
              exact .same (exec_move 9 _ rfl (hk 9 (by kernel_rfl))) rfl
            · cases ho
              have h87 : A0.tmps[87]?.getD undef = .agg #[.string lab, .string r.h, .slice A r.ts.length c, .string r.agg, .int .i64 r.at', .slice Ab nb cb] := hin 2 87 (by kernel_rfl)
              have h88 : A0.tmps[88]?.getD undef = .slice A4 nx cx := hin 3 88 (by kernel_rfl)
              refine .call (f := 13) (args := #[.agg #[.string lab, .string r.h, .slice A r.ts.length c, .string r.agg, .int .i64 r.at', .slice Ab nb cb], .slice A4 nx cx]) (W' := W) ?_ ((HFx.out W (HNd.out.trans hN (fun _ _ x => x))).mono ?_)
              · simp [go_sem, h87, h88, eg13]
              · rintro e w' ⟨m, v', o, hm, ho, rfl, hsl, hc⟩
                exact ⟨_, rfl, hc, m, o, hm, ho, hsl⟩
            · cases ho
              have h8 : A0.tmps[8]?.getD undef = .pointer (some ⟨b8, 0, none⟩) := hk 8 (by kernel_rfl)
              exact .same (exec_load 8 _ rfl stRule ⟨b8, 0, none⟩ [.string lab, .string r.h, .slice A r.ts.length c, .string r.agg, .int .i64 r.at', .slice Ab nb cb] h8 rfl (HBd.out.chg hN id).at_) rfl
            · cases ho
              exact .same (exec_move 10 _ rfl (hk 10 (by kernel_rfl))) rfl
            · cases ho
              have h90 : A0.tmps[90]?.getD undef = .agg #[.string lab, .string r.h, .slice A r.ts.length c, .string r.agg, .int .i64 r.at', .slice Ab nb cb] := hin 5 90 (by kernel_rfl)
              have h91 : A0.tmps[91]?.getD undef = .slice Az nz cz := hin 6 91 (by kernel_rfl)
              refine .call (f := 13) (args := #[.agg #[.string lab, .string r.h, .slice A r.ts.length c, .string r.agg, .int .i64 r.at', .slice Ab nb cb], .slice Az nz cz]) (W' := W) ?_ ((HFy.out W (HNd.out.trans hN (fun _ _ x => x))).mono ?_)
              · simp [go_sem, h90, h91, eg13]
              · rintro e w' ⟨m, v', o, hm, ho, rfl, hsl, hc⟩
                exact ⟨_, rfl, hc, m, o, hm, ho, hsl⟩
            · cases ho
              have h89 := hin 4 89 (by kernel_rfl)
              have h92 := hin 7 92 (by kernel_rfl)
              obtain ⟨m, o, hm, ho, hsl⟩ := h89
              obtain ⟨m', o', hm', ho', hsl'⟩ := h92
              obtain rfl := HSame.out m o m' o' hm ho hm' ho'
              refine .call (f := 11) (args := #[A0.tmps[89]?.getD undef, A0.tmps[92]?.getD undef]) (W' := W) ?_ ((same_sl W _ _ o' hsl hsl').mono ?_)
              · simp [go_sem, eg11]
              · rintro e w' ⟨rfl, hc⟩
                exact ⟨_, rfl, hc, rfl⟩
            · cases ho
              have h86 : A0.tmps[86]?.getD undef = .bool true := hk 86 (by kernel_rfl)
              have h93 : A0.tmps[93]?.getD undef = .bool true := hin 8 93 (by kernel_rfl)
              exact .same (by simp [go_sem, h86, h93]) rfl
            · cases ho
              have h94 : A0.tmps[94]?.getD undef = .bool true := hin 9 94 (by kernel_rfl)
              exact .same (by simp [go_sem, h94]) rfl
          obtain ⟨x87, x88, x89, x90, x91, x92, x93, x94, x6, rfl⟩ : ∃ x87 x88 x89 x90 x91 x92 x93 x94 x6, l = [x87, x88, x89, x90, x91, x92, x93, x94, x6] := by
            match l, hl with
            | [x87, x88, x89, x90, x91, x92, x93, x94, x6], _ => exact ⟨_, _, _, _, _, _, _, _, _, rfl⟩
          obtain rfl : x87 = .agg #[.string lab, .string r.h, .slice A r.ts.length c, .string r.agg, .int .i64 r.at', .slice Ab nb cb] := hΦ 0 (by decide)
          obtain rfl : x88 = .slice A4 nx cx := hΦ 1 (by decide)
          have hx89 := hΦ 2 (by decide)
          obtain rfl : x90 = .agg #[.string lab, .string r.h, .slice A r.ts.length c, .string r.agg, .int .i64 r.at', .slice Ab nb cb] := hΦ 3 (by decide)
          obtain rfl : x91 = .slice Az nz cz := hΦ 4 (by decide)
          have hx92 := hΦ 5 (by decide)
          obtain rfl : x93 = .bool true := hΦ 6 (by decide)
          obtain rfl : x94 = .bool true := hΦ 7 (by decide)
          obtain rfl : x6 = .bool true := hΦ 8 (by decide)
          simp only [putsL, List.zip_cons_cons, List.zip_nil_left, List.zip_nil_right, List.zip, List.zipWith, Act.put, List.setIfInBounds_toArray, List.set_cons_succ, List.set_cons_zero]
          clear hΦ hl
          refine AtN.done rfl ?_
          have hfin := HNf.out.trans (HNd.out.trans hN (fun _ _ x => x)) (fun _ _ x => x)
          clear hN
          go_wp2_with fail
          go_ret
          exact ⟨rfl, hfin⟩
end Go.Proofs.Ytenkobgeflckdab
