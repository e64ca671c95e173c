/- The walk of GroupCounts. -/
import Derived.Test.YtenkobgeflckdaaLGe
import Derived.Test.YtenkobgeflckdaaGrpN
set_option linter.unusedVariables false
set_option linter.unusedSimpArgs false
namespace Go.Proofs.Ytenkobgeflckdaa
open Go.RowKit Go.Shelf

def lenB (k : Nat) (r : Rw) : Bool := decide (k < r.args.length)
theorem take_filterK {x : List Rw} {p : Rw → Bool} {i : Nat} {r : Rw} (h : x[i]? = some r) : ((x.take (i + 1)).filter p).length = ((x.take i).filter p).length + (if p r = true then 1 else 0) := by
  rw [take_succ_get h, List.filter_append, List.length_append]
  congr 1
  by_cases hp : p r = true <;> simp [hp]
theorem take_sum {x : List Rw} {f : Rw → Int} {i : Nat} {r : Rw} (h : x[i]? = some r) : ((x.take (i + 1)).map f).sum = ((x.take i).map f).sum + f r := by
  rw [take_succ_get h, List.map_append, List.sum_append]
  simp
/-- A row's arguments, in memory. -/
theorem RowAt.args {W : World} {cs : List Value} {r : Rw} (h : RowAt W cs r) : ∃ A c, cs = [.string r.name, .slice A r.args.length c, .int .i64 r.stamp] ∧ r.args.length ≤ 1000 := by
  obtain ⟨A, c, h1, h2, _⟩ := h
  exact ⟨A, c, h1, h2⟩

set_option maxHeartbeats 8000000 in
set_option maxRecDepth 100000 in
theorem walk_GroupCounts (w : World) (v0 : Value) (n0 : Nat) (X0 : Nat → Int) (hx0 : IntsAt w v0 6 n0 X0) (c2 : Int) (h20 : -9223372036854775808 ≤ c2) (h21 : c2 ≤ 9223372036854775807) :
    Calls Try.prog 12 #[v0, .int .i64 c2] w fun e w' => e = .returned (.bool true) ∧ New w w' := by
  have HX0 := Lib.hid hx0
  obtain ⟨q2, hq2⟩ : ∃ q, pk c2 2 = q := ⟨_, rfl⟩
  obtain ⟨k, hk⟩ : ∃ k : Nat, 1 + q2 = (k : Int) := ⟨(1 + q2).toNat, by have := pk_lo c2 2 (by omega); omega⟩
  have hk1 : 1 ≤ k := by have := pk_lo c2 2 (by omega); omega
  have hk2 : k ≤ 2 := by have := pk_hi c2 2 (by omega); omega
  have hp2 := fun W => pick11 W c2 2 h20 h21 (by omega) (by omega)
  rw [hq2] at hp2
  have HP2 := Lib.hid hp2
  have Hk := Lib.hid hk
  clear hx0 hp2 hq2 hk
  go_enter Try.func12, Try.ntmps12
  go_wp2_with fail
  refine (awake11 _).mono ?_
  rintro e w1 ⟨rfl, hN1⟩
  have HR := Lib.hid (rows_sl w1 v0 n0 X0 (HX0.out.chg hN1))
  have HN1 := Lib.hid hN1
  clear hN1 HX0
  go_wp2_with fail
  refine HR.out.mono ?_
  rintro e w2 ⟨vl, rs, rfl, hl, hl40, hg, hN2⟩
  have hcan : ∀ r ∈ rs, canonR r := fun r hr => (hg r hr).can
  have HL2 := Lib.hid hl
  have HCan := Lib.hid hcan
  have HN2 := Lib.hid (HN1.out.trans hN2 (fun _ _ x => x))
  have hkk := Hk.out
  have hqb : 0 ≤ q2 ∧ q2 ≤ 1 := by omega
  have HMe := Lib.hid (merge_sl w2 vl rs hl)
  clear hN2 hl hg HR HN1 hcan
  go_wp2_with fail
  refine (HP2.out w2).mono ?_
  rintro e w2' ⟨rfl, rfl⟩
  go_wp2_with fail
  clear hkk
  refine HMe.out.mono ?_
  rintro e w3 ⟨vm, M, rfl, hM, hml, hN3⟩
  obtain ⟨Am, cm, hvm, _⟩ := hml.form
  subst hvm
  obtain ⟨nm, hnm⟩ : ∃ n, M.length = n := ⟨_, rfl⟩
  have hnm40 : M.length ≤ 40 := merge_len hM 40 hl40
  rw [hnm] at hml hnm40 ⊢
  have HM := Lib.hid hM
  have HMl := Lib.hid hml
  have Hnm := Lib.hid hnm
  have HL3 := Lib.hid (HL2.out.chg hN3)
  have HN3 := Lib.hid (HN2.out.trans hN3 (fun _ _ x => x))
  clear hM hml hnm hN3 HMe HL2 HN2
  go_wp2_with fail
  go_loopw [9, 10] (fun u9 u10 wr => ∃ i : Nat, i ≤ nm ∧ u10 = .int .i64 i ∧ u9 = .int .i64 ((M.take i).filter (lenB k)).length ∧ wr = w3) (fun _ u _ => nm - (intOf u).toNat)
  case atStart => exact ⟨0, Nat.zero_le _, rfl, rfl, rfl⟩
  case round =>
    obtain ⟨i, hin, rfl, rfl, rfl⟩ := hrel
    obtain ⟨q, hq⟩ : ∃ q, ((M.take i).filter (lenB k)).length = q := ⟨_, rfl⟩
    have hqi : q ≤ i := by rw [← hq]; exact Nat.le_trans (List.length_filter_le _ _) (List.length_take_le _ _)
    rw [hq]
    have Hq := Lib.hid hq
    clear hq
    by_cases hlt : i < nm
    · obtain ⟨r, hr⟩ : ∃ r, M[i]? = some r := ⟨_, List.getElem?_eq_getElem (by rw [Hnm.out]; exact hlt)⟩
      obtain ⟨la, rc, hla, hrat, hr3, hrrow⟩ := HMl.out.row hr
      subst hla
      obtain ⟨X2, x2, hrce, hlr1000⟩ := hrrow.args
      have htf := take_filterK (p := lenB k) hr
      obtain ⟨lr, hlr⟩ : ∃ l, r.args.length = l := ⟨_, rfl⟩
      rw [hlr] at hrce hlr1000
      have hlb : lenB k r = decide (k < lr) := by unfold lenB; rw [hlr]
      rw [hlb, Hq.out] at htf
      have hcell : wr.cell? ⟨(la.add (i * 3)).block, (la.add (i * 3)).off + 1, none⟩ = some (.slice X2 lr x2) := by
        have := hrat 1 (.slice X2 lr x2) (by rw [hrce]; rfl)
        rwa [add_succ] at this
      have Htf := Lib.hid htf
      have j0 : (0 : Int) ≤ (i : Int) := by omega
      have j1 : (i : Int) < (nm : Int) := by omega
      clear hr hrat hrrow hrce htf hlb hlr
      by_cases hkl : k < lr
      · have d1 : decide ((k : Int) < (lr : Int)) = true := decide_eq_true (by omega)
        have d2 : decide (k < lr) = true := decide_eq_true hkl
        have HT := Lib.hid (show ((M.take (i + 1)).filter (lenB k)).length = q + 1 by have := Htf.out; rw [d2] at this; exact this)
        go_wp2_with fail
        go_roundw
        case rel => exact ⟨i + 1, by omega, by go_num, by rw [HT.out]; go_num, by first | rfl | trivial⟩
        case measure => simp only [intOf]; omega
      · have d1 : decide ((k : Int) < (lr : Int)) = false := decide_eq_false (by omega)
        have d2 : decide (k < lr) = false := decide_eq_false hkl
        have HT := Lib.hid (show ((M.take (i + 1)).filter (lenB k)).length = q by have := Htf.out; rw [d2] at this; exact this)
        go_wp2_with fail
        go_roundw
        case rel => exact ⟨i + 1, by omega, by go_num, by rw [HT.out], by first | rfl | trivial⟩
        case measure => simp only [intOf]; omega
    · have hqe : (M.filter (lenB k)).length = q := by
        have := Hq.out
        rwa [List.take_of_length_le (by rw [Hnm.out]; omega)] at this
      have Hqe := Lib.hid hqe
      clear hqe
      obtain ⟨y1, W1, y2, W2, hrun1, hrun2, hN5, hOO⟩ := two_sl HL3.out HL3.out (by omega) 50 50
      have hgr := group_rows W2 .count k hk1 (by omega) y2 (rs ++ rs) hOO
      have HGr := Lib.hid (show Calls Try.prog 41 #[.string ⟨#[99, 111, 117, 110, 116]⟩, .int .i64 k, y2] W2 (GroupPost W2 (rs ++ rs) .count k) from hgr)
      have Hr1 := Lib.hid hrun1
      have Hr2 := Lib.hid hrun2
      have HN5 := Lib.hid (HN3.out.trans hN5 (fun _ _ x => x))
      have HM5 := Lib.hid (HMl.out.chg hN5)
      clear hgr hrun1 hrun2 hN5 hOO HL3 HMl
      go_wp2_with (first | ((with_reducible refine wpl_append rfl (.const (.slice none 0 0)) (.tmp 40) 50 50 rfl ?_ ?_ Hr1.out ?_); exact rfl; exact rfl) | ((with_reducible refine wpl_append rfl (.tmp 41) (.tmp 42) 50 50 rfl ?_ ?_ Hr2.out ?_); exact rfl; exact rfl))
      refine HGr.out.mono ?_
      rintro e w6 ⟨vg, m, res, rfl, hm, hr, hgl, hN6⟩
      have hcc : ∀ r ∈ rs ++ rs, canonR r := fun r hr => (List.mem_append.1 hr).elim (HCan.out r) (HCan.out r)
      have hsm : IsMerge (trn k rs) m := merge_same (trn_same (fun r => by simp)) hm
      have hGR := GR.of (ag := .count) hcc hm hr
      have hcnt := cnt_is hcc hm hr
      have hpos := cnt_pos hcc hm hr
      have hsum := cnt_sum hcc hm hr
      have hml2 : m.length ≤ 1000 := merge_len hm 1000 (by have := trn_len k (rs ++ rs); rw [List.length_append] at this; omega)
      obtain ⟨Ag', cg, hvg, hg1000⟩ := hgl.form
      subst hvg
      obtain ⟨ng, hng⟩ : ∃ n, res.length = n := ⟨_, rfl⟩
      rw [hng] at hgl hg1000 ⊢
      have HGl := Lib.hid hgl
      have Hng := Lib.hid hng
      have HGR := Lib.hid hGR
      have HCnt := Lib.hid hcnt
      have HPos := Lib.hid hpos
      have HSum := Lib.hid hsum
      have HSm := Lib.hid hsm
      have HRs := Lib.hid hr
      have HM6 := Lib.hid (HM5.out.chg hN6)
      have HN6 := Lib.hid (HN5.out.trans hN6 (fun _ _ x => x))
      clear hm hr hgl hN6 hcc hsm hGR hcnt hpos hsum hng HGr HM5 HN5
      go_wp2_with fail
      go_loopw [12, 13] (fun u12 u13 wr => ∃ (i : Nat) (s : Int), i ≤ ng ∧ u13 = .int .i64 i ∧ u12 = .int .i64 s ∧ s = ((res.take i).map (fun g => (vr k g).i)).sum ∧ 0 ≤ s ∧ s ≤ 1000 * i ∧ New w6 wr) (fun _ u _ => ng - (intOf u).toNat)
      case atStart => exact ⟨0, 0, Nat.zero_le _, rfl, rfl, rfl, Int.le_refl _, by omega, Chg.refl _ _⟩
      case round =>
        obtain ⟨p, s, hpn, rfl, rfl, hse, hs0, hs1, hN⟩ := hrel
        have HSe := Lib.hid hse
        have HNp := Lib.hid hN
        clear hse hN
        by_cases hlt2 : p < ng
        · obtain ⟨g, hg⟩ : ∃ g, res[p]? = some g := ⟨_, List.getElem?_eq_getElem (by rw [Hng.out]; exact hlt2)⟩
          have hgm := List.mem_of_getElem? hg
          have hgk := HGR.out.len g hgm
          obtain ⟨ga, gc, hga, hgat, hg3, hgrow⟩ := HGl.out.row hg
          subst hga
          obtain ⟨gA, gx, hgce, hgarg, hgl1000⟩ := hgrow.arg hgk
          obtain ⟨lg, hlg⟩ : ∃ l, g.args.length = l := ⟨_, rfl⟩
          rw [hlg] at hgce hgk hgl1000
          obtain ⟨c, hc⟩ : ∃ c : Nat, (m.filter (fun x => decide (kk x = kr k g))).length = c := ⟨_, rfl⟩
          have hc1 : 1 ≤ c := by rw [← hc]; exact HPos.out g hgm
          have hcm : c ≤ 1000 := by rw [← hc]; exact Nat.le_trans (List.length_filter_le _ _) hml2
          have hv : vr k g = ⟨1, (c : Int), ⟨#[]⟩⟩ := by rw [← hc]; exact HCnt.out g hgm
          have hax := hgarg.chg HNp.out id
          rw [hv] at hax
          change At _ _ [.int .i64 1, .int .i64 (c : Int), .string ⟨#[]⟩, .slice none 0 0] at hax
          have hts := take_sum (f := fun g => (vr k g).i) hg
          rw [← HSe.out, hv] at hts
          have hcg : wr.cell? ⟨(ga.add (p * 3)).block, (ga.add (p * 3)).off + 1, none⟩ = some (.slice (some gA) lg gx) := by
            have := (hgat.chg HNp.out id) 1 (.slice (some gA) lg gx) (by rw [hgce]; rfl)
            rwa [add_succ] at this
          have Hts := Lib.hid hts
          have HAx := Lib.hid hax
          have HNn := Lib.hid (HNp.out.trans (show New wr (wr.alloc (.cells #[.int .i64 1, .int .i64 (c : Int), .string ⟨#[]⟩, .slice none 0 0] 69)) from (Chg.refl _ _).alloc _) (fun _ _ x => x))
          have i0 : (0 : Int) ≤ (p : Int) := by omega
          have i1 : (p : Int) < (ng : Int) := by omega
          have k0 : (0 : Int) ≤ (k : Int) := by omega
          have k2 : (k : Int) < (lg : Int) := by omega
          have d1 : decide ((c : Int) < 1) = false := decide_eq_false (by omega)
          clear hg hgm hgat hgrow hgce hgarg hlg hc hv hax hts
          go_wp2_with ((with_reducible refine wpl_load rfl (.tmp 57) 69 rfl stVal4 (gA.add (k * 4)) [.int .i64 1, .int .i64 (c : Int), .string ⟨#[]⟩, .slice none 0 0] ?_ rfl HAx.out ?_); exact rfl)
          go_roundw
          case rel => exact ⟨p + 1, s + (c : Int), by omega, by go_num, rfl, Hts.out.symm, by omega, by omega, HNn.out⟩
          case measure => simp only [intOf]; omega
        · have hM6 := HM6.out.chg HNp.out
          have hgr := group_rows wr .count k hk1 (by omega) _ M hM6
          have HGr := Lib.hid (show Calls Try.prog 41 #[.string ⟨#[99, 111, 117, 110, 116]⟩, .int .i64 k, .slice Am nm cm] wr (GroupPost wr M .count k) from hgr)
          have hsq : s = (q : Int) := by
            have h1 := HSe.out
            rw [List.take_of_length_le (by rw [Hng.out]; omega), HSum.out] at h1
            rw [h1, ← Hqe.out]
            have hMc : ∀ r ∈ M, canonR r := fun r hr => HCan.out r (HM.out.sub r hr)
            -- both merge to the same
            obtain ⟨m2, hm2⟩ : ∃ m2, IsMerge (trn k M) m2 := by
              refine ⟨m, ?_⟩
              have hsub : ∀ x ∈ m, x ∈ trn k M := fun x hx => by
                obtain ⟨r, hr, v, hv, rfl⟩ := mem_trn.1 (HSm.out.sub x hx)
                obtain ⟨t, ht, e, l⟩ := HM.out.all r hr
                obtain ⟨e1, e2⟩ := canonR_eq (hMc t ht) (HCan.out r hr) e
                obtain ⟨z, hz, e3, l3⟩ := HSm.out.all (ahd t k v) (mem_trn.2 ⟨t, HM.out.sub t ht, v, by rw [e2]; exact hv, rfl⟩)
                have e4 : cmpR (ahd t k v) (ahd r k v) = 0 := by
                  have : ahd t k v = ⟨(ahd r k v).name, (ahd r k v).args, t.stamp⟩ := by unfold ahd; rw [e1, e2]
                  rw [this]
                  unfold cmpR lex2
                  simp only []
                  rw [tri_str.refl, if_pos rfl]
                  exact (tri_list tri_val).refl _
                have e5 := up_uniq HSm.out.up hz hx (eq_trans' e3 e4)
                have e6 : (ahd t k v).stamp = t.stamp := rfl
                have e7 : (ahd r k v).stamp = r.stamp := rfl
                rw [e5] at l3
                have : t = r := canonR_eq' (hMc t ht) (HCan.out r hr) e (by omega)
                subst this
                exact mem_trn.2 ⟨t, ht, v, hv, rfl⟩
              exact ⟨HSm.out.up, hsub, fun x hx => by
                obtain ⟨r, hr, v, hv, rfl⟩ := mem_trn.1 hx
                exact HSm.out.all _ (mem_trn.2 ⟨r, HM.out.sub r hr, v, hv, rfl⟩)⟩
            have := merge_uniq (trn_can HCan.out) HSm.out (merged_groups HCan.out HM.out hm2)
            subst this
            have := merged_len hMc HM.out.up hm2
            rw [this]
            rfl
          subst hsq
          have hqq : ((q : Int) == (q : Int)) = true := by simp
          clear hgr hM6
          go_wp2_with fail
          refine HGr.out.mono ?_
          rintro e w8 ⟨vg2, m2, res2, rfl, hm2, hr2, hgl2, hN8⟩
          have hres : res = res2 := group_uniq HCan.out HSm.out (merged_groups HCan.out HM.out hm2) HRs.out hr2
          subst hres
          have HSa := Lib.hid (same_sl w8 _ vg2 res (((HGl.out.chg HNp.out).chg hN8)) hgl2)
          have HN8 := Lib.hid ((HN6.out.trans HNp.out (fun _ _ x => x)).trans hN8 (fun _ _ x => x))
          clear hm2 hr2 hgl2 hN8 HGr
          go_wp2_with fail
          refine HSa.out.mono ?_
          rintro e w9 ⟨rfl, hN9⟩
          have HN9 := Lib.hid (HN8.out.trans hN9 (fun _ _ x => x))
          clear hN9
          go_wp2_with fail
          go_ret
          exact ⟨rfl, HN9.out⟩
end Go.Proofs.Ytenkobgeflckdaa
