/- The walk of GroupSets. -/
import Derived.Test.YtenkobgeflckdaaGrpM
import Derived.Test.YtenkobgeflckdaaAwk11
set_option linter.unusedVariables false
set_option linter.unusedSimpArgs false
namespace Go.Proofs.Ytenkobgeflckdaa
open Go.RowKit Go.Shelf

def agOf : Nat → Ag
  | 0 => .min
  | 1 => .max
  | _ => .count
theorem ag_cell {W : World} {b a : Nat} (h : Blk W b 9 #[.string (agName .min), .string (agName .max), .string (agName .count)]) (ha : a < 3) : W.cell? ⟨b, a, none⟩ = some (.string (agName (agOf a))) := by
  rcases (show a = 0 ∨ a = 1 ∨ a = 2 by omega) with rfl | rfl | rfl
  · exact h.cell 0
  · exact h.cell 1
  · exact h.cell 2
section
variable {k : Nat} {ag : Ag} {rs res : List Rw}
theorem GR.ali (h : GR k ag rs res) (hc : ∀ r ∈ rs, canonR r) {g r : Rw} (hg : g ∈ res) (hr : r ∈ rs) : alikeK g r k = true ↔ k < r.args.length ∧ kr k r = kr k g := by
  rw [alikeK_iff (h.can g hg) (hc r hr) (h.len g hg)]
  exact ⟨fun h => ⟨h.1, h.2.symm⟩, fun h => ⟨h.1, h.2.symm⟩⟩
theorem GR.apart (h : GR k ag rs res) {i j : Nat} {g g' : Rw} (hi : res[i]? = some g) (hj : res[j]? = some g') (hij : j < i) : alikeK g g' k = false := by
  rw [← Bool.not_eq_true, alikeK_iff (h.can g (List.mem_of_getElem? hi)) (h.can g' (List.mem_of_getElem? hj)) (h.len g (List.mem_of_getElem? hi))]
  rintro ⟨_, e⟩
  obtain ⟨h1, rfl⟩ := List.getElem?_eq_some_iff.1 hi
  obtain ⟨h2, rfl⟩ := List.getElem?_eq_some_iff.1 hj
  have := List.pairwise_iff_getElem.1 h.dis j i (by rw [List.length_map]; exact h2) (by rw [List.length_map]; exact h1) hij
  rw [List.getElem_map, List.getElem_map] at this
  exact this e.symm
end
/-- The greatest stamp so far of the rows alike. -/
def Best (rs : List Rw) (g : Rw) (k j : Nat) (b : Int) : Prop := -1 ≤ b ∧ b ≤ 100 ∧ (∀ r ∈ rs.take j, alikeK g r k = true → r.stamp ≤ b) ∧ (b = -1 ∨ ∃ r ∈ rs.take j, alikeK g r k = true ∧ r.stamp = b)
theorem Best.zero (rs : List Rw) (g : Rw) (k : Nat) : Best rs g k 0 (-1) := ⟨by omega, by omega, fun r h => by simp at h, .inl rfl⟩
theorem Best.no {rs : List Rw} {g r : Rw} {k j : Nat} {b : Int} (h : Best rs g k j b) (hr : rs[j]? = some r) (ha : alikeK g r k = false) : Best rs g k (j + 1) b := by
  obtain ⟨h0, h1, h2, h3⟩ := h
  unfold Best
  rw [take_succ_get hr]
  refine ⟨h0, h1, fun x hx hax => ?_, h3.imp id fun ⟨x, hx, h⟩ => ⟨x, by simp [hx], h⟩⟩
  rcases List.mem_append.1 hx with h | h
  · exact h2 x h hax
  · rw [List.mem_singleton.1 h, ha] at hax; cases hax
theorem Best.yes {rs : List Rw} {g r : Rw} {k j : Nat} {b : Int} (h : Best rs g k j b) (hr : rs[j]? = some r) (ha : alikeK g r k = true) (hs : -1 ≤ r.stamp ∧ r.stamp ≤ 100) : Best rs g k (j + 1) (if b < r.stamp then r.stamp else b) := by
  obtain ⟨h0, h1, h2, h3⟩ := h
  unfold Best
  rw [take_succ_get hr]
  refine ⟨by split <;> omega, by split <;> omega, fun x hx hax => ?_, ?_⟩
  · rcases List.mem_append.1 hx with h | h
    · have := h2 x h hax
      split <;> omega
    · rw [List.mem_singleton.1 h]
      split <;> omega
  · by_cases hb : b < r.stamp
    · rw [if_pos hb]
      exact .inr ⟨r, by simp, ha, rfl⟩
    · rw [if_neg hb]
      exact h3.imp id fun ⟨x, hx, h⟩ => ⟨x, by simp [hx], h⟩
theorem Best.end {rs res : List Rw} {g : Rw} {k : Nat} {ag : Ag} {b : Int} {n : Nat} (h : Best rs g k n b) (hn : rs.length ≤ n) (hG : GR k ag rs res) (hc : ∀ r ∈ rs, canonR r) (hs : ∀ r ∈ rs, 0 ≤ r.stamp) (hg : g ∈ res) : b = g.stamp := by
  obtain ⟨h0, h1, h2, h3⟩ := h
  rw [List.take_of_length_le hn] at h2 h3
  obtain ⟨r, hr, hk, e1, e2⟩ := hG.st2 g hg
  have h4 := h2 r hr ((hG.ali hc hg hr).2 ⟨hk, e1⟩)
  rcases h3 with h3 | ⟨x, hx, hax, e⟩
  · have := hs r hr; omega
  · obtain ⟨hk', e'⟩ := (hG.ali hc hg hx).1 hax
    have := hG.st1 g hg x hx hk' e'
    omega

set_option maxHeartbeats 8000000 in
set_option maxRecDepth 100000 in
theorem walk_GroupSets (w : World) (v0 : Value) (n0 : Nat) (X0 : Nat → Int) (hx0 : IntsAt w v0 6 n0 X0) (c1 : Int) (h10 : -9223372036854775808 ≤ c1) (h11 : c1 ≤ 9223372036854775807) (c2 : Int) (h20 : -9223372036854775808 ≤ c2) (h21 : c2 ≤ 9223372036854775807) :
    Calls Try.prog 10 #[v0, .int .i64 c1, .int .i64 c2] w fun e w' => e = .returned (.bool true) ∧ New w w' := by
  have HX0 := Lib.hid hx0
  obtain ⟨q2, hq2⟩ : ∃ q, pk c2 2 = q := ⟨_, rfl⟩
  obtain ⟨k, hk⟩ : ∃ k : Nat, 1 + q2 = (k : Int) := ⟨(1 + q2).toNat, by have := pk_lo c2 2 (by omega); omega⟩
  have hk1 : 1 ≤ k := by have := pk_lo c2 2 (by omega); omega
  have hk2 : k ≤ 2 := by have := pk_hi c2 2 (by omega); omega
  obtain ⟨a, ha⟩ : ∃ a : Nat, pk c1 3 = a := ⟨(pk c1 3).toNat, by have := pk_lo c1 3 (by omega); omega⟩
  have ha3 : a < 3 := by have := pk_hi c1 3 (by omega); omega
  have hp2 := fun W => pick11 W c2 2 h20 h21 (by omega) (by omega)
  have hp1 := fun W => pick11 W c1 3 h10 h11 (by omega) (by omega)
  rw [hq2] at hp2
  rw [ha] at hp1
  have HP2 := Lib.hid hp2
  have HP1 := Lib.hid hp1
  have Hk := Lib.hid hk
  clear hx0 hp2 hp1 hq2 ha hk
  go_enter Try.func10, Try.ntmps10
  go_wp2_with fail
  refine (awake11 _).mono ?_
  rintro e w1 ⟨rfl, hN1⟩
  have HR := Lib.hid (rows_sl w1 v0 n0 X0 (HX0.out.chg hN1))
  have HN1 := Lib.hid hN1
  clear hN1 HX0
  go_wp2_with fail
  refine HR.out.mono ?_
  rintro e w2 ⟨vl, rs, rfl, hl, hl40, hg, hN2⟩
  have HL2 := Lib.hid hl
  have HG := Lib.hid hg
  have HN2 := Lib.hid (HN1.out.trans hN2 (fun _ _ x => x))
  have hkk := Hk.out
  have hqb : 0 ≤ q2 ∧ q2 ≤ 1 := by omega
  clear hN2 hl hg HR HN1
  go_wp2_with fail
  refine (HP2.out w2).mono ?_
  rintro e w2' ⟨rfl, rfl⟩
  go_wp2_with fail
  refine (aggs_any w2).mono ?_
  rintro e w3 ⟨b, rfl, hb, hN3⟩
  have hca := ag_cell hb ha3
  obtain ⟨ag, hag⟩ : ∃ g, agOf a = g := ⟨_, rfl⟩
  rw [hag] at hca
  have HL3 := Lib.hid (HL2.out.chg hN3)
  have HN3 := Lib.hid (HN2.out.trans hN3 (fun _ _ x => x))
  have qa : (a : Int) < 3 := by omega
  have HGr := Lib.hid (group_rows w3 ag k hk1 (by omega) vl rs HL3.out)
  clear hN3 HL2 HN2 hb hag
  go_wp2_with (go_at_call 40; refine (HP1.out _).mono ?_; rintro e w' ⟨rfl, rfl⟩)
  refine HGr.out.mono ?_
  rintro e w4 ⟨vg, m, res, rfl, hm, hr, hgl, hN4⟩
  have hcan : ∀ r ∈ rs, canonR r := fun r hr => (HG.out r hr).can
  have HGR := Lib.hid (GR.of (ag := ag) hcan hm hr)
  have HCan := Lib.hid hcan
  have hL4 := HL3.out.chg hN4
  have HN4 := Lib.hid (HN3.out.trans hN4 (fun _ _ x => x))
  obtain ⟨Al, cl, hvl, _⟩ := hL4.form
  obtain ⟨Ag', cg, hvg, hg1000⟩ := hgl.form
  subst hvl
  subst hvg
  obtain ⟨nl, hnl⟩ : ∃ n, rs.length = n := ⟨_, rfl⟩
  obtain ⟨ng, hng⟩ : ∃ n, res.length = n := ⟨_, rfl⟩
  rw [hnl] at hL4 hl40 ⊢
  rw [hng] at hgl hg1000 ⊢
  have HL4 := Lib.hid hL4
  have HGl := Lib.hid hgl
  have Hnl := Lib.hid hnl
  have Hng := Lib.hid hng
  have egA := enters_of Try.func43 (by kernel_rfl) rfl
  unfold Enters at egA
  clear hm hr hgl hN4 hcan hL4 hnl hng HGr HL3 HN3 hca
  clear hkk
  go_wp2_with fail
  go_loopw [11] (fun u11 wr => ∃ i : Nat, i ≤ ng ∧ u11 = .int .i64 i ∧ New w4 wr) (fun u _ => ng - (intOf u).toNat)
  case atStart => exact ⟨0, Nat.zero_le _, rfl, Chg.refl _ _⟩
  case round =>
    obtain ⟨i, hig, rfl, hN⟩ := hrel
    have HNw := Lib.hid hN
    clear hN
    by_cases hlt : i < ng
    · obtain ⟨g, hg⟩ : ∃ g, res[i]? = some g := ⟨_, List.getElem?_eq_getElem (by rw [Hng.out]; exact hlt)⟩
      obtain ⟨ga, gc, hga, hgat, hg3, hgrow⟩ := HGl.out.row hg
      subst hga
      have Hg := Lib.hid hg
      have HGat := Lib.hid hgat
      have HGrow := Lib.hid hgrow
      have i0 : (0 : Int) ≤ (i : Int) := by omega
      have i1 : (i : Int) < (ng : Int) := by omega
      clear hg hgat hgrow
      go_wp2_with fail
      go_loopw [12] (fun u12 wx => ∃ j : Nat, j ≤ i ∧ u12 = .int .i64 j ∧ New w4 wx) (fun u _ => i - (intOf u).toNat)
      case atStart => exact ⟨0, Nat.zero_le _, rfl, HNw.out⟩
      case round =>
        obtain ⟨j, hji, rfl, hN⟩ := hrel
        have HNj := Lib.hid hN
        clear hN HNw
        by_cases hlt2 : j < i
        · obtain ⟨h, hh⟩ : ∃ h, res[j]? = some h := ⟨_, List.getElem?_eq_getElem (by rw [Hng.out]; omega)⟩
          obtain ⟨ga2, hc, hga2, hhat, hh3, hhrow⟩ := HGl.out.row hh
          obtain rfl : ga = ga2 := Option.some.inj hga2
          have hap := HGR.out.apart Hg.out hh hlt2
          have hnd := HNj.out.drew
          have HAt1 := Lib.hid (HGat.out.chg hnd id)
          have HRow1 := Lib.hid (HGrow.out.chg hnd)
          have HAt2 := Lib.hid (hhat.chg hnd id)
          have HRow2 := Lib.hid (hhrow.chg hnd)
          have HNd := Lib.hid hnd
          have Hap := Lib.hid hap
          have hltb : j < ng := by omega
          have j0 : (0 : Int) ≤ (j : Int) := by omega
          have j1 : (j : Int) < (ng : Int) := by omega
          clear hh hhat hhrow hnd hap hga2
          go_upto_region 11 with fail
          refine wp_region_at (by kernel_rfl) ?_
          generalize wr.drew = wd at HAt1 HRow1 HAt2 HRow2 HNd ⊢
          refine AtN.segN2 0 10 [43, 44, 45, 46, 47, 48, 49, 50, 51, 52] (fun
            | 0 => fun v _ => v = .slice (some ga) ng cg
            | 1 => fun v _ => v = .int .i64 i
            | 2 => fun v _ => v = .pointer (some (ga.add (i * 3)))
            | 3 => fun v _ => v = .agg gc.toArray
            | 4 => fun v _ => v = .slice (some ga) ng cg
            | 5 => fun v _ => v = .int .i64 j
            | 6 => fun v _ => v = .pointer (some (ga.add (j * 3)))
            | 7 => fun v _ => v = .agg hc.toArray
            | 8 => fun v _ => v = .int .i64 k
            | 9 => fun v _ => v = .bool false
            | _ => fun _ _ => True) (by kernel_rfl) (by kernel_rfl) (by kernel_rfl) (by kernel_rfl) (fun j v w1 w2 hc h => ?_) (fun i hn hi o ho A0 W hN hin hk => ?_) (fun l W5 hN hl hΦ => ?_)
          · match j with
            | 0 | 1 | 2 | 3 | 4 | 5 | 6 | 7 | 8 | 9 => exact h
            | _ + 10 => trivial
          · rcases (show i = 0 ∨ i = 1 ∨ i = 2 ∨ i = 3 ∨ i = 4 ∨ i = 5 ∨ i = 6 ∨ i = 7 ∨ i = 8 ∨ i = 9 by omega) with rfl | rfl | rfl | rfl | rfl | rfl | rfl | rfl | rfl | rfl
            · cases ho
              exact .same (exec_move 10 _ rfl (hk 10 (by kernel_rfl))) rfl
            · cases ho
              exact .same (exec_move 11 _ rfl (hk 11 (by kernel_rfl))) rfl
            · cases ho
              have h43 : A0.tmps[43]?.getD undef = .slice (some ga) ng cg := hin 0 43 (by kernel_rfl)
              have h44 : A0.tmps[44]?.getD undef = .int .i64 i := hin 1 44 (by kernel_rfl)
              exact .same (by simp [go_sem, h43, h44, i0, i1, hlt]) rfl
            · cases ho
              have h45 : A0.tmps[45]?.getD undef = .pointer (some (ga.add (i * 3))) := hin 2 45 (by kernel_rfl)
              exact .same (exec_load 45 _ rfl stRow (ga.add (i * 3)) gc h45 hg3 (HAt1.out.chg hN id)) rfl
            · cases ho
              exact .same (exec_move 10 _ rfl (hk 10 (by kernel_rfl))) rfl
            · cases ho
              exact .same (exec_move 12 _ rfl (hk 12 (by kernel_rfl))) rfl
            · cases ho
              have h47 : A0.tmps[47]?.getD undef = .slice (some ga) ng cg := hin 4 47 (by kernel_rfl)
              have h48 : A0.tmps[48]?.getD undef = .int .i64 j := hin 5 48 (by kernel_rfl)
              exact .same (by simp [go_sem, h47, h48, j0, j1, hltb]) rfl
            · cases ho
              have h49 : A0.tmps[49]?.getD undef = .pointer (some (ga.add (j * 3))) := hin 6 49 (by kernel_rfl)
              exact .same (exec_load 49 _ rfl stRow (ga.add (j * 3)) hc h49 hh3 (HAt2.out.chg hN id)) rfl
            · cases ho
              exact .same (exec_move 9 _ rfl (hk 9 (by kernel_rfl))) rfl
            · cases ho
              have h46 : A0.tmps[46]?.getD undef = .agg gc.toArray := hin 3 46 (by kernel_rfl)
              have h50 : A0.tmps[50]?.getD undef = .agg hc.toArray := hin 7 50 (by kernel_rfl)
              have h51 : A0.tmps[51]?.getD undef = .int .i64 k := hin 8 51 (by kernel_rfl)
              refine .call (f := 43) (args := #[.agg gc.toArray, .agg hc.toArray, .int .i64 k]) (W' := W) ?_ ((alike11 W gc hc _ _ (HRow1.out.chg hN) (HRow2.out.chg hN) k (by omega)).mono ?_)
              · simp [go_sem, h46, h50, h51, egA]
              · rintro e w' ⟨rfl, hc⟩
                exact ⟨_, rfl, hc, by rw [Hap.out]; rfl⟩
          obtain ⟨x43, x44, x45, x46, x47, x48, x49, x50, x51, x52, rfl⟩ : ∃ x43 x44 x45 x46 x47 x48 x49 x50 x51 x52, l = [x43, x44, x45, x46, x47, x48, x49, x50, x51, x52] := by
            match l, hl with
            | [x43, x44, x45, x46, x47, x48, x49, x50, x51, x52], _ => exact ⟨_, _, _, _, _, _, _, _, _, _, rfl⟩
          obtain rfl : x43 = .slice (some ga) ng cg := hΦ 0 (by decide)
          obtain rfl : x44 = .int .i64 i := hΦ 1 (by decide)
          obtain rfl : x45 = .pointer (some (ga.add (i * 3))) := hΦ 2 (by decide)
          obtain rfl : x46 = .agg gc.toArray := hΦ 3 (by decide)
          obtain rfl : x47 = .slice (some ga) ng cg := hΦ 4 (by decide)
          obtain rfl : x48 = .int .i64 j := hΦ 5 (by decide)
          obtain rfl : x49 = .pointer (some (ga.add (j * 3))) := hΦ 6 (by decide)
          obtain rfl : x50 = .agg hc.toArray := hΦ 7 (by decide)
          obtain rfl : x51 = .int .i64 k := hΦ 8 (by decide)
          obtain rfl : x52 = .bool false := hΦ 9 (by decide)
          simp only [putsL, List.zip_cons_cons, List.zip_nil_left, List.zip_nil_right, List.zip, List.zipWith, Act.put, List.setIfInBounds_toArray, List.set_cons_succ, List.set_cons_zero]
          clear hΦ hl
          refine AtN.done rfl ?_
          have HN5 := Lib.hid (HNd.out.trans hN (fun _ _ x => x))
          clear hN
          go_wp2_with fail
          go_roundw
          case rel => exact ⟨j + 1, by omega, by go_num, HN5.out⟩
          case measure => simp only [intOf]; omega
        · obtain rfl : j = i := by omega
          go_wp2_with fail
          go_loopw [13, 14] (fun u13 u14 wx => ∃ (j : Nat) (b : Int), j ≤ nl ∧ u14 = .int .i64 j ∧ u13 = .int .i64 b ∧ Best rs g k j b ∧ New w4 wx) (fun _ u _ => nl - (intOf u).toNat)
          case atStart => exact ⟨0, -1, Nat.zero_le _, rfl, rfl, Best.zero _ _ _, HNj.out⟩
          case round =>
            obtain ⟨p, b, hpl, rfl, rfl, hbest, hN⟩ := hrel
            have HBe := Lib.hid hbest
            have HNp := Lib.hid hN
            obtain ⟨hb0, hb1, _⟩ := hbest
            clear hN HNj
            by_cases hlt3 : p < nl
            · obtain ⟨r, hr⟩ : ∃ r, rs[p]? = some r := ⟨_, List.getElem?_eq_getElem (by rw [Hnl.out]; exact hlt3)⟩
              obtain ⟨la, rc, hla, hrat, hr3, hrrow⟩ := HL4.out.row hr
              subst hla
              obtain ⟨bo, hbo⟩ : ∃ b, alikeK g r k = b := ⟨_, rfl⟩
              have hnd := HNp.out.drew
              have hst0 := (HG.out r (List.mem_of_getElem? hr)).st0
              have hst9 := (HG.out r (List.mem_of_getElem? hr)).st9
              have hcell : wr.drew.cell? ⟨(la.add (p * 3)).block, (la.add (p * 3)).off + 2, none⟩ = some (.int .i64 r.stamp) := by
                obtain ⟨X2, x2, rfl, _⟩ := hrrow
                have := (hrat.chg hnd id) 2 _ rfl
                rwa [add_succ] at this
              have Hr := Lib.hid hr
              have HAt1 := Lib.hid (HGat.out.chg hnd id)
              have HRow1 := Lib.hid (HGrow.out.chg hnd)
              have HAt2 := Lib.hid (hrat.chg hnd id)
              have HRow2 := Lib.hid (hrrow.chg hnd)
              have HNd := Lib.hid hnd
              have Hcell := Lib.hid hcell
              have Hbo := Lib.hid hbo
              have j0 : (0 : Int) ≤ (p : Int) := by omega
              have j1 : (p : Int) < (nl : Int) := by omega
              clear hr hrat hrrow hnd hbo hcell
              go_upto_region 17 with fail
              refine wp_region_at (by kernel_rfl) ?_
              generalize wr.drew = wd at HAt1 HRow1 HAt2 HRow2 HNd Hcell ⊢
              refine AtN.segN2 0 10 [59, 60, 61, 62, 63, 64, 65, 66, 67, 68] (fun
                | 0 => fun v _ => v = .slice (some ga) ng cg
                | 1 => fun v _ => v = .int .i64 j
                | 2 => fun v _ => v = .pointer (some (ga.add (j * 3)))
                | 3 => fun v _ => v = .agg gc.toArray
                | 4 => fun v _ => v = .slice (some la) nl cl
                | 5 => fun v _ => v = .int .i64 p
                | 6 => fun v _ => v = .pointer (some (la.add (p * 3)))
                | 7 => fun v _ => v = .agg rc.toArray
                | 8 => fun v _ => v = .int .i64 k
                | 9 => fun v _ => v = .bool bo
                | _ => fun _ _ => True) (by kernel_rfl) (by kernel_rfl) (by kernel_rfl) (by kernel_rfl) (fun j v w1 w2 hc h => ?_) (fun i hn hi o ho A0 W hN hin hk => ?_) (fun l W5 hN hl hΦ => ?_)
              · match j with
                | 0 | 1 | 2 | 3 | 4 | 5 | 6 | 7 | 8 | 9 => exact h
                | _ + 10 => trivial
              · rcases (show i = 0 ∨ i = 1 ∨ i = 2 ∨ i = 3 ∨ i = 4 ∨ i = 5 ∨ i = 6 ∨ i = 7 ∨ i = 8 ∨ i = 9 by omega) with rfl | rfl | rfl | rfl | rfl | rfl | rfl | rfl | rfl | rfl
                · cases ho
                  exact .same (exec_move 10 _ rfl (hk 10 (by kernel_rfl))) rfl
                · cases ho
                  exact .same (exec_move 11 _ rfl (hk 11 (by kernel_rfl))) rfl
                · cases ho
                  have h59 : A0.tmps[59]?.getD undef = .slice (some ga) ng cg := hin 0 59 (by kernel_rfl)
                  have h60 : A0.tmps[60]?.getD undef = .int .i64 j := hin 1 60 (by kernel_rfl)
                  exact .same (by simp [go_sem, h59, h60, i0, i1, hlt]) rfl
                · cases ho
                  have h61 : A0.tmps[61]?.getD undef = .pointer (some (ga.add (j * 3))) := hin 2 61 (by kernel_rfl)
                  exact .same (exec_load 61 _ rfl stRow (ga.add (j * 3)) gc h61 hg3 (HAt1.out.chg hN id)) rfl
                · cases ho
                  exact .same (exec_move 8 _ rfl (hk 8 (by kernel_rfl))) rfl
                · cases ho
                  exact .same (exec_move 14 _ rfl (hk 14 (by kernel_rfl))) rfl
                · cases ho
                  have h63 : A0.tmps[63]?.getD undef = .slice (some la) nl cl := hin 4 63 (by kernel_rfl)
                  have h64 : A0.tmps[64]?.getD undef = .int .i64 p := hin 5 64 (by kernel_rfl)
                  exact .same (by simp [go_sem, h63, h64, j0, j1, hlt3]) rfl
                · cases ho
                  have h65 : A0.tmps[65]?.getD undef = .pointer (some (la.add (p * 3))) := hin 6 65 (by kernel_rfl)
                  exact .same (exec_load 65 _ rfl stRow (la.add (p * 3)) rc h65 hr3 (HAt2.out.chg hN id)) rfl
                · cases ho
                  exact .same (exec_move 9 _ rfl (hk 9 (by kernel_rfl))) rfl
                · cases ho
                  have h62 : A0.tmps[62]?.getD undef = .agg gc.toArray := hin 3 62 (by kernel_rfl)
                  have h66 : A0.tmps[66]?.getD undef = .agg rc.toArray := hin 7 66 (by kernel_rfl)
                  have h67 : A0.tmps[67]?.getD undef = .int .i64 k := hin 8 67 (by kernel_rfl)
                  refine .call (f := 43) (args := #[.agg gc.toArray, .agg rc.toArray, .int .i64 k]) (W' := W) ?_ ((alike11 W gc rc _ _ (HRow1.out.chg hN) (HRow2.out.chg hN) k (by omega)).mono ?_)
                  · simp [go_sem, h62, h66, h67, egA]
                  · rintro e w' ⟨rfl, hc⟩
                    exact ⟨_, rfl, hc, by rw [Hbo.out]; rfl⟩
              obtain ⟨x59, x60, x61, x62, x63, x64, x65, x66, x67, x68, rfl⟩ : ∃ x59 x60 x61 x62 x63 x64 x65 x66 x67 x68, l = [x59, x60, x61, x62, x63, x64, x65, x66, x67, x68] := by
                match l, hl with
                | [x59, x60, x61, x62, x63, x64, x65, x66, x67, x68], _ => exact ⟨_, _, _, _, _, _, _, _, _, _, rfl⟩
              obtain rfl : x59 = .slice (some ga) ng cg := hΦ 0 (by decide)
              obtain rfl : x60 = .int .i64 j := hΦ 1 (by decide)
              obtain rfl : x61 = .pointer (some (ga.add (j * 3))) := hΦ 2 (by decide)
              obtain rfl : x62 = .agg gc.toArray := hΦ 3 (by decide)
              obtain rfl : x63 = .slice (some la) nl cl := hΦ 4 (by decide)
              obtain rfl : x64 = .int .i64 p := hΦ 5 (by decide)
              obtain rfl : x65 = .pointer (some (la.add (p * 3))) := hΦ 6 (by decide)
              obtain rfl : x66 = .agg rc.toArray := hΦ 7 (by decide)
              obtain rfl : x67 = .int .i64 k := hΦ 8 (by decide)
              obtain rfl : x68 = .bool bo := hΦ 9 (by decide)
              simp only [putsL, List.zip_cons_cons, List.zip_nil_left, List.zip_nil_right, List.zip, List.zipWith, Act.put, List.setIfInBounds_toArray, List.set_cons_succ, List.set_cons_zero]
              clear hΦ hl
              refine AtN.done rfl ?_
              have HN5 := Lib.hid (HNd.out.trans hN (fun _ _ x => x))
              have e5 := hN.cellS Hcell.out id
              clear hN
              cases bo with
              | false =>
                have HB2 := Lib.hid (HBe.out.no Hr.out Hbo.out)
                go_wp2_with fail
                go_roundw
                case rel => exact ⟨p + 1, b, by omega, by go_num, rfl, HB2.out, HN5.out⟩
                case measure => simp only [intOf]; omega
              | true =>
                have HB2 := Lib.hid (HBe.out.yes Hr.out Hbo.out ⟨by omega, by omega⟩)
                obtain ⟨nb, hnb⟩ : ∃ x, (if b < r.stamp then r.stamp else b) = x := ⟨_, rfl⟩
                rw [hnb] at HB2
                have Hnb := Lib.hid hnb
                clear hnb
                go_wp2_with fail
                go_roundw
                case rel => exact ⟨p + 1, nb, by omega, by go_num, by first | rw [← Hnb.out] | (rw [← Hnb.out]; rfl), HB2.out, HN5.out⟩
                case measure => simp only [intOf]; omega
            · have hbe := HBe.out.end (by rw [Hnl.out]; omega) HGR.out HCan.out (fun r hr => (HG.out r hr).st0) (List.mem_of_getElem? Hg.out)
              subst hbe
              have hcg : wr.cell? ⟨(ga.add (j * 3)).block, (ga.add (j * 3)).off + 2, none⟩ = some (.int .i64 g.stamp) := by
                have h9 := HGat.out.chg HNp.out id
                obtain ⟨X2, x2, rfl, _⟩ := HGrow.out
                have := h9 2 _ rfl
                rwa [add_succ] at this
              go_wp2_with fail
              go_roundw
              case rel => exact ⟨j + 1, by omega, by go_num, HNp.out⟩
              case measure => simp only [intOf]; omega
    · go_wp2_with fail
      go_loopw [15] (fun u15 wr => ∃ i : Nat, i ≤ nl ∧ u15 = .int .i64 i ∧ New w4 wr) (fun u _ => nl - (intOf u).toNat)
      case atStart => exact ⟨0, Nat.zero_le _, rfl, HNw.out⟩
      case round =>
        obtain ⟨p, hpl, rfl, hN⟩ := hrel
        have HNp := Lib.hid hN
        clear hN HNw
        by_cases hlt3 : p < nl
        · obtain ⟨r, hr⟩ : ∃ r, rs[p]? = some r := ⟨_, List.getElem?_eq_getElem (by rw [Hnl.out]; exact hlt3)⟩
          obtain ⟨la, rc, hla, hrat, hr3, hrrow⟩ := HL4.out.row hr
          subst hla
          obtain ⟨lr, hlr⟩ : ∃ l, r.args.length = l := ⟨_, rfl⟩
          obtain ⟨X2, x2, hrce, hlr1000, _⟩ := hrrow
          rw [hlr] at hrce hlr1000
          have hcell : wr.cell? ⟨(la.add (p * 3)).block, (la.add (p * 3)).off + 1, none⟩ = some (.slice X2 lr x2) := by
            have := (hrat.chg HNp.out id) 1 (.slice X2 lr x2) (by rw [hrce]; rfl)
            rwa [add_succ] at this
          obtain ⟨b0, hb0⟩ : ∃ b, decide (lr ≤ k) = b := ⟨_, rfl⟩
          have hb1 : decide ((lr : Int) ≤ (k : Int)) = b0 := by rw [← hb0]; congr 1; apply propext; omega
          have hb0t : lr ≤ k → b0 = true := fun h => by rw [← hb0]; exact decide_eq_true h
          have hrm := List.mem_of_getElem? hr
          have hrrow2 := (HL4.out.row hr)
          have Hr := Lib.hid hr
          have Hrat := Lib.hid hrat
          have Hrm := Lib.hid hrm
          have Hlr := Lib.hid hlr
          have Hb0t := Lib.hid hb0t
          have Hrow := Lib.hid (show RowAt w4 rc r by
            obtain ⟨la', rc', e1, e2, e3, e4⟩ := hrrow2
            have : rc = rc' := by
              apply List.ext_getElem?
              intro q
              by_cases hq : q < 3
              · have h1 := hrat q rc[q] (List.getElem?_eq_getElem (by omega))
                obtain rfl : la = la' := Option.some.inj e1
                have h2 := e2 q rc'[q] (List.getElem?_eq_getElem (by omega))
                rw [h1] at h2
                rw [List.getElem?_eq_getElem (by omega), List.getElem?_eq_getElem (by omega), Option.some.inj h2]
              · rw [List.getElem?_eq_none (by omega), List.getElem?_eq_none (by omega)]
            rw [this]; exact e4)
          have j0 : (0 : Int) ≤ (p : Int) := by omega
          have j1 : (p : Int) < (nl : Int) := by omega
          clear hr hrat hrm hlr hb0t hrrow2 hrce
          go_wp2_with fail
          go_loopw [16, 17] (fun u16 u17 wx => ∃ (q : Nat) (b : Bool), q ≤ ng ∧ u17 = .int .i64 q ∧ u16 = .bool b ∧ (lr ≤ k → b = true) ∧ (∀ g ∈ res.take q, alikeK g r k = true → b = true) ∧ New w4 wx) (fun _ u _ => ng - (intOf u).toNat)
          case atStart => exact ⟨0, b0, Nat.zero_le _, rfl, rfl, Hb0t.out, fun g h => (by simp at h), HNp.out⟩
          case round =>
            obtain ⟨q, b, hqn, rfl, rfl, hbt, hba, hN⟩ := hrel
            have HBt := Lib.hid hbt
            have HBa := Lib.hid hba
            have HNq := Lib.hid hN
            clear hbt hba hN HNp hcell
            by_cases hlt4 : q < ng
            · obtain ⟨g, hg⟩ : ∃ g, res[q]? = some g := ⟨_, List.getElem?_eq_getElem (by rw [Hng.out]; exact hlt4)⟩
              obtain ⟨ga, gc, hga, hgat, hg3, hgrow⟩ := HGl.out.row hg
              subst hga
              obtain ⟨bo, hbo⟩ : ∃ b, alikeK g r k = b := ⟨_, rfl⟩
              have hnd := HNq.out.drew
              have htk := take_succ_get hg
              have HAt1 := Lib.hid (hgat.chg hnd id)
              have HRow1 := Lib.hid (hgrow.chg hnd)
              have HAt2 := Lib.hid (Hrat.out.chg hnd id)
              have HRow2 := Lib.hid (Hrow.out.chg hnd)
              have HNd := Lib.hid hnd
              have Hbo := Lib.hid hbo
              have Htk := Lib.hid htk
              have i0 : (0 : Int) ≤ (q : Int) := by omega
              have i1 : (q : Int) < (ng : Int) := by omega
              clear hg hgat hgrow hnd hbo htk
              go_upto_region 28 with fail
              refine wp_region_at (by kernel_rfl) ?_
              generalize wr.drew = wd at HAt1 HRow1 HAt2 HRow2 HNd ⊢
              cases b with
              | true =>
                refine AtN.segQ2 0 2 (fun
                  | 0 => .bool true
                  | _ => .bool true)
                  [(103, .bool true), (104, .bool true)] (by kernel_rfl) (by kernel_rfl) (by kernel_rfl) (by kernel_rfl) rfl (fun i hn hi o ho A0 hin hk => ?_) ?_
                · rcases (show i = 0 ∨ i = 1 by omega) with rfl | rfl
                  · cases ho
                    exact exec_move 16 _ rfl (hk 16 (by kernel_rfl))
                  · cases ho
                    exact exec_move 103 _ rfl (hin 0 103 (by kernel_rfl))
                simp only [putsL, Act.put, List.setIfInBounds_toArray, List.set_cons_succ, List.set_cons_zero]
                refine AtN.segS2 2 12 [(105, undef), (106, undef), (107, undef), (108, undef), (109, undef), (110, undef), (111, undef), (112, undef), (113, undef), (114, undef)] (by kernel_rfl) (by kernel_rfl) (by kernel_rfl) (by kernel_rfl) rfl ?_
                simp only [putsL, Act.put, List.setIfInBounds_toArray, List.set_cons_succ, List.set_cons_zero]
                refine AtN.segQ2 12 14 (fun
                  | 12 => .bool true
                  | _ => .bool true)
                  [(115, .bool true), (16, .bool true)] (by kernel_rfl) (by kernel_rfl) (by kernel_rfl) (by kernel_rfl) rfl (fun i hn hi o ho A0 hin hk => ?_) ?_
                · rcases (show i = 12 ∨ i = 13 by omega) with rfl | rfl
                  · cases ho
                    have h104 : A0.tmps[104]?.getD undef = .bool true := hk 104 (by kernel_rfl)
                    have h114 : A0.tmps[114]?.getD undef = undef := hk 114 (by kernel_rfl)
                    exact by simp [go_sem, h104, h114]
                  · cases ho
                    have h115 : A0.tmps[115]?.getD undef = .bool true := hin 12 115 (by kernel_rfl)
                    exact by simp [go_sem, h115]
                simp only [putsL, Act.put, List.setIfInBounds_toArray, List.set_cons_succ, List.set_cons_zero]
                refine AtN.done rfl ?_
                go_wp2_with fail
                go_roundw
                case rel => exact ⟨q + 1, true, by omega, by go_num, rfl, fun _ => rfl, fun _ _ _ => rfl, HNd.out⟩
                case measure => simp only [intOf]; omega
              | false =>
                refine AtN.segQ2 0 2 (fun
                  | 0 => .bool false
                  | _ => .bool false)
                  [(103, .bool false), (104, .bool false)] (by kernel_rfl) (by kernel_rfl) (by kernel_rfl) (by kernel_rfl) rfl (fun i hn hi o ho A0 hin hk => ?_) ?_
                · rcases (show i = 0 ∨ i = 1 by omega) with rfl | rfl
                  · cases ho
                    exact exec_move 16 _ rfl (hk 16 (by kernel_rfl))
                  · cases ho
                    exact exec_move 103 _ rfl (hin 0 103 (by kernel_rfl))
                simp only [putsL, Act.put, List.setIfInBounds_toArray, List.set_cons_succ, List.set_cons_zero]
                refine AtN.segN2 2 14 [105, 106, 107, 108, 109, 110, 111, 112, 113, 114, 115, 16] (fun
                  | 2 => fun v _ => v = .slice (some ga) ng cg
                  | 3 => fun v _ => v = .int .i64 q
                  | 4 => fun v _ => v = .pointer (some (ga.add (q * 3)))
                  | 5 => fun v _ => v = .agg gc.toArray
                  | 6 => fun v _ => v = .slice (some la) nl cl
                  | 7 => fun v _ => v = .int .i64 p
                  | 8 => fun v _ => v = .pointer (some (la.add (p * 3)))
                  | 9 => fun v _ => v = .agg rc.toArray
                  | 10 => fun v _ => v = .int .i64 k
                  | 11 => fun v _ => v = .bool bo
                  | 12 => fun v _ => v = .bool bo
                  | 13 => fun v _ => v = .bool bo
                  | _ => fun _ _ => True) (by kernel_rfl) (by kernel_rfl) (by kernel_rfl) (by kernel_rfl) (fun j v w1 w2 hc h => ?_) (fun i hn hi o ho A0 W hN hin hk => ?_) (fun l W5 hN hl hΦ => ?_)
                · match j with
                  | 2 | 3 | 4 | 5 | 6 | 7 | 8 | 9 | 10 | 11 | 12 | 13 => exact h
                  | 0 | 1 => trivial
                  | _ + 14 => trivial
                · rcases (show i = 2 ∨ i = 3 ∨ i = 4 ∨ i = 5 ∨ i = 6 ∨ i = 7 ∨ i = 8 ∨ i = 9 ∨ i = 10 ∨ i = 11 ∨ i = 12 ∨ i = 13 by omega) with rfl | rfl | rfl | rfl | rfl | rfl | rfl | rfl | rfl | rfl | rfl | rfl
                  · cases ho
                    exact .same (exec_move 10 _ rfl (hk 10 (by kernel_rfl))) rfl
                  · cases ho
                    exact .same (exec_move 17 _ rfl (hk 17 (by kernel_rfl))) rfl
                  · cases ho
                    have h105 : A0.tmps[105]?.getD undef = .slice (some ga) ng cg := hin 2 105 (by kernel_rfl)
                    have h106 : A0.tmps[106]?.getD undef = .int .i64 q := hin 3 106 (by kernel_rfl)
                    exact .same (by simp [go_sem, h105, h106, i0, i1, hlt4]) rfl
                  · cases ho
                    have h107 : A0.tmps[107]?.getD undef = .pointer (some (ga.add (q * 3))) := hin 4 107 (by kernel_rfl)
                    exact .same (exec_load 107 _ rfl stRow (ga.add (q * 3)) gc h107 hg3 (HAt1.out.chg hN id)) rfl
                  · cases ho
                    exact .same (exec_move 8 _ rfl (hk 8 (by kernel_rfl))) rfl
                  · cases ho
                    exact .same (exec_move 15 _ rfl (hk 15 (by kernel_rfl))) rfl
                  · cases ho
                    have h109 : A0.tmps[109]?.getD undef = .slice (some la) nl cl := hin 6 109 (by kernel_rfl)
                    have h110 : A0.tmps[110]?.getD undef = .int .i64 p := hin 7 110 (by kernel_rfl)
                    exact .same (by simp [go_sem, h109, h110, j0, j1, hlt3]) rfl
                  · cases ho
                    have h111 : A0.tmps[111]?.getD undef = .pointer (some (la.add (p * 3))) := hin 8 111 (by kernel_rfl)
                    exact .same (exec_load 111 _ rfl stRow (la.add (p * 3)) rc h111 hr3 (HAt2.out.chg hN id)) rfl
                  · cases ho
                    exact .same (exec_move 9 _ rfl (hk 9 (by kernel_rfl))) rfl
                  · cases ho
                    have h108 : A0.tmps[108]?.getD undef = .agg gc.toArray := hin 5 108 (by kernel_rfl)
                    have h112 : A0.tmps[112]?.getD undef = .agg rc.toArray := hin 9 112 (by kernel_rfl)
                    have h113 : A0.tmps[113]?.getD undef = .int .i64 k := hin 10 113 (by kernel_rfl)
                    refine .call (f := 43) (args := #[.agg gc.toArray, .agg rc.toArray, .int .i64 k]) (W' := W) ?_ ((alike11 W gc rc _ _ (HRow1.out.chg hN) (HRow2.out.chg hN) k (by omega)).mono ?_)
                    · simp [go_sem, h108, h112, h113, egA]
                    · rintro e w' ⟨rfl, hc⟩
                      exact ⟨_, rfl, hc, by rw [Hbo.out]; rfl⟩
                  · cases ho
                    have h104 : A0.tmps[104]?.getD undef = .bool false := hk 104 (by kernel_rfl)
                    have h114 : A0.tmps[114]?.getD undef = .bool bo := hin 11 114 (by kernel_rfl)
                    exact .same (by simp [go_sem, h104, h114]) rfl
                  · cases ho
                    have h115 : A0.tmps[115]?.getD undef = .bool bo := hin 12 115 (by kernel_rfl)
                    exact .same (by simp [go_sem, h115]) rfl
                obtain ⟨x105, x106, x107, x108, x109, x110, x111, x112, x113, x114, x115, x16, rfl⟩ : ∃ x105 x106 x107 x108 x109 x110 x111 x112 x113 x114 x115 x16, l = [x105, x106, x107, x108, x109, x110, x111, x112, x113, x114, x115, x16] := by
                  match l, hl with
                  | [x105, x106, x107, x108, x109, x110, x111, x112, x113, x114, x115, x16], _ => exact ⟨_, _, _, _, _, _, _, _, _, _, _, _, rfl⟩
                obtain rfl : x105 = .slice (some ga) ng cg := hΦ 0 (by decide)
                obtain rfl : x106 = .int .i64 q := hΦ 1 (by decide)
                obtain rfl : x107 = .pointer (some (ga.add (q * 3))) := hΦ 2 (by decide)
                obtain rfl : x108 = .agg gc.toArray := hΦ 3 (by decide)
                obtain rfl : x109 = .slice (some la) nl cl := hΦ 4 (by decide)
                obtain rfl : x110 = .int .i64 p := hΦ 5 (by decide)
                obtain rfl : x111 = .pointer (some (la.add (p * 3))) := hΦ 6 (by decide)
                obtain rfl : x112 = .agg rc.toArray := hΦ 7 (by decide)
                obtain rfl : x113 = .int .i64 k := hΦ 8 (by decide)
                obtain rfl : x114 = .bool bo := hΦ 9 (by decide)
                obtain rfl : x115 = .bool bo := hΦ 10 (by decide)
                obtain rfl : x16 = .bool bo := hΦ 11 (by decide)
                simp only [putsL, List.zip_cons_cons, List.zip_nil_left, List.zip_nil_right, List.zip, List.zipWith, Act.put, List.setIfInBounds_toArray, List.set_cons_succ, List.set_cons_zero]
                clear hΦ hl
                refine AtN.done rfl ?_
                have HN5 := Lib.hid (HNd.out.trans hN (fun _ _ x => x))
                have HBa2 := Lib.hid (show ∀ g ∈ res.take (q + 1), alikeK g r k = true → bo = true from fun g' hg' ha' => by
                  rw [Htk.out] at hg'
                  rcases List.mem_append.1 hg' with h | h
                  · have := HBa.out g' h ha'
                    cases this
                  · rw [List.mem_singleton.1 h, Hbo.out] at ha'
                    exact ha')
                have HBt2 := Lib.hid (show lr ≤ k → bo = true from fun h => by have := HBt.out h; cases this)
                clear hN
                go_wp2_with fail
                go_roundw
                case rel => exact ⟨q + 1, bo, by omega, by go_num, rfl, HBt2.out, HBa2.out, HN5.out⟩
                case measure => simp only [intOf]; omega
            · have hbt : b = true := by
                by_cases h : lr ≤ k
                · exact HBt.out h
                · obtain ⟨g, hg, e⟩ := HGR.out.all r Hrm.out (by rw [Hlr.out]; omega)
                  refine HBa.out g ?_ ((HGR.out.ali HCan.out hg Hrm.out).2 ⟨by rw [Hlr.out]; omega, e⟩)
                  rw [List.take_of_length_le (by rw [Hng.out]; omega)]
                  exact hg
              subst hbt
              go_wp2_with fail
              go_roundw
              case rel => exact ⟨p + 1, by omega, by go_num, HNq.out⟩
              case measure => simp only [intOf]; omega
        · have HNe := Lib.hid (HN4.out.trans HNp.out (fun _ _ x => x))
          go_wp2_with fail
          go_ret
          exact ⟨rfl, HNe.out⟩
end Go.Proofs.Ytenkobgeflckdaa
