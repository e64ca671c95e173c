/- The walk of GroupEnds. -/
import Derived.Test.YtenkobgeflckdaaLGs
set_option linter.unusedVariables false
set_option linter.unusedSimpArgs false
namespace Go.Proofs.Ytenkobgeflckdaa
open Go.RowKit Go.Shelf

/-- Among the first rows alike: is one the same at the place? -/
def There (rs : List Rw) (g : Rw) (k j : Nat) (b : Bool) : Prop := b = true ↔ ∃ r ∈ rs.take j, alikeK g r k = true ∧ cmpV (vr k r) (vr k g) = 0
theorem There.zero (rs : List Rw) (g : Rw) (k : Nat) : There rs g k 0 false := ⟨fun h => (by cases h), fun ⟨r, h, _⟩ => (by simp at h)⟩
theorem There.no {rs : List Rw} {g r : Rw} {k j : Nat} {b : Bool} (h : There rs g k j b) (hr : rs[j]? = some r) (ha : alikeK g r k = false) : There rs g k (j + 1) b := by
  unfold There at *
  rw [take_succ_get hr, h]
  constructor
  · rintro ⟨x, hx, e⟩; exact ⟨x, by simp [hx], e⟩
  · rintro ⟨x, hx, e1, e2⟩
    rcases List.mem_append.1 hx with h3 | h3
    · exact ⟨x, h3, e1, e2⟩
    · rw [List.mem_singleton.1 h3, ha] at e1; cases e1
theorem There.yes {rs : List Rw} {g r : Rw} {k j : Nat} {b : Bool} (h : There rs g k j b) (hr : rs[j]? = some r) (ha : alikeK g r k = true) : There rs g k (j + 1) (b || decide (cmpV (vr k r) (vr k g) = 0)) := by
  unfold There at *
  rw [take_succ_get hr, Bool.or_eq_true, h, decide_eq_true_eq]
  constructor
  · rintro (⟨x, hx, e⟩ | e)
    · exact ⟨x, by simp [hx], e⟩
    · exact ⟨r, by simp, ha, e⟩
  · rintro ⟨x, hx, e1, e2⟩
    rcases List.mem_append.1 hx with h3 | h3
    · exact .inl ⟨x, h3, e1, e2⟩
    · rw [List.mem_singleton.1 h3] at e2
      exact .inr e2
/-- The end that an aggregate looks for: 1: the greatest, -1: the least. -/
def EndOf (ag : Ag) (s : Int) : Prop := (ag = .min ∧ s = -1) ∨ (ag = .max ∧ s = 1)
theorem GR.ends {k : Nat} {ag : Ag} {rs res : List Rw} {s : Int} (h : GR k ag rs res) (he : EndOf ag s) (hc : ∀ r ∈ rs, canonR r) {g : Rw} (hg : g ∈ res) : (∃ r ∈ rs, alikeK g r k = true ∧ cmpV (vr k r) (vr k g) = 0) ∧ ∀ r ∈ rs, alikeK g r k = true → cmpV (vr k r) (vr k g) * s ≤ 0 := by
  rcases he with ⟨rfl, rfl⟩ | ⟨rfl, rfl⟩
  · obtain ⟨⟨r, hr, hk, e1, e2⟩, hm⟩ := h.mn rfl g hg
    refine ⟨⟨r, hr, (h.ali hc hg hr).2 ⟨hk, e1⟩, by rw [e2]; exact tri_val.refl _⟩, fun r' hr' ha => ?_⟩
    obtain ⟨h1, h2⟩ := (h.ali hc hg hr').1 ha
    have := hm r' hr' h1 h2
    have := tri_val.anti (vr k g) (vr k r')
    omega
  · obtain ⟨⟨r, hr, hk, e1, e2⟩, hm⟩ := h.mx rfl g hg
    refine ⟨⟨r, hr, (h.ali hc hg hr).2 ⟨hk, e1⟩, by rw [e2]; exact tri_val.refl _⟩, fun r' hr' ha => ?_⟩
    obtain ⟨h1, h2⟩ := (h.ali hc hg hr').1 ha
    have := hm r' hr' h1 h2
    omega
/-- A row's argument at a place, in memory. -/
theorem RowAt.arg {W : World} {cs : List Value} {r : Rw} (h : RowAt W cs r) {k : Nat} (hk : k < r.args.length) : ∃ A c, cs = [.string r.name, .slice (some A) r.args.length c, .int .i64 r.stamp] ∧ At W (A.add (k * 4)) (vcs (vr k r)) ∧ r.args.length ≤ 1000 := by
  obtain ⟨A, c, h1, h2, h3, h4, h5, h6⟩ := h
  obtain ⟨a, rfl, hr⟩ := h5 (by rw [List.length_map]; omega)
  obtain ⟨v, hv⟩ : ∃ v, r.args[k]? = some v := ⟨_, List.getElem?_eq_getElem hk⟩
  exact ⟨a, c, h1, by rw [vr_some hv]; exact (hr k (vcs v) (by rw [List.getElem?_map, hv]; rfl)).2, h2⟩

set_option maxHeartbeats 8000000 in
set_option maxRecDepth 100000 in
theorem walk_GroupEnds (w : World) (v0 : Value) (n0 : Nat) (X0 : Nat → Int) (hx0 : IntsAt w v0 6 n0 X0) (c2 : Int) (h20 : -9223372036854775808 ≤ c2) (h21 : c2 ≤ 9223372036854775807) :
    Calls Try.prog 11 #[v0, .int .i64 c2] w fun e w' => e = .returned (.bool true) ∧ New w w' := by
  have HX0 := Lib.hid hx0
  obtain ⟨q2, hq2⟩ : ∃ q, pk c2 2 = q := ⟨_, rfl⟩
  obtain ⟨k, hk⟩ : ∃ k : Nat, 1 + q2 = (k : Int) := ⟨(1 + q2).toNat, by have := pk_lo c2 2 (by omega); omega⟩
  have hk1 : 1 ≤ k := by have := pk_lo c2 2 (by omega); omega
  have hk2 : k ≤ 2 := by have := pk_hi c2 2 (by omega); omega
  have hp2 := fun W => pick11 W c2 2 h20 h21 (by omega) (by omega)
  rw [hq2] at hp2
  have HP2 := Lib.hid hp2
  have Hk := Lib.hid hk
  clear hx0 hp2 hq2 hk
  go_enter Try.func11, Try.ntmps11
  go_wp2_with fail
  refine (awake11 _).mono ?_
  rintro e w1 ⟨rfl, hN1⟩
  have HR := Lib.hid (rows_sl w1 v0 n0 X0 (HX0.out.chg hN1))
  have HN1 := Lib.hid hN1
  clear hN1 HX0
  go_wp2_with fail
  refine HR.out.mono ?_
  rintro e w2 ⟨vl, rs, rfl, hl, hl40, hg, hN2⟩
  have hcan : ∀ r ∈ rs, canonR r := fun r hr => (hg r hr).can
  obtain ⟨Al, cl, hvl, _⟩ := hl.form
  subst hvl
  obtain ⟨nl, hnl⟩ : ∃ n, rs.length = n := ⟨_, rfl⟩
  rw [hnl] at hl hl40 ⊢
  have HL2 := Lib.hid hl
  have HCan := Lib.hid hcan
  have Hnl := Lib.hid hnl
  have HN2 := Lib.hid (HN1.out.trans hN2 (fun _ _ x => x))
  have hkk := Hk.out
  have hqb : 0 ≤ q2 ∧ q2 ≤ 1 := by omega
  have egA := enters_of Try.func43 (by kernel_rfl) rfl
  have egC := enters_of Try.func44 (by kernel_rfl) rfl
  unfold Enters at egA egC
  clear hN2 hl hg HR HN1 hcan hnl
  go_wp2_with fail
  refine (HP2.out w2).mono ?_
  rintro e w2' ⟨rfl, rfl⟩
  go_wp2_with fail
  clear hkk
  go_loopw [8] (fun u8 wr => ∃ s : Int, (s = -1 ∨ s = 1 ∨ s = 3) ∧ u8 = .int .i64 s ∧ New w2 wr) (fun u _ => 10 - (intOf u + 1).toNat)
  case atStart => exact ⟨-1, .inl rfl, rfl, Chg.refl _ _⟩
  case round =>
    obtain ⟨s, hs, rfl, hN⟩ := hrel
    have HNw := Lib.hid hN
    clear hN
    by_cases hs1 : s ≤ 1
    · obtain ⟨ag, hag⟩ : ∃ ag, EndOf ag s := by
        rcases hs with rfl | rfl | rfl
        · exact ⟨.min, .inl ⟨rfl, rfl⟩⟩
        · exact ⟨.max, .inr ⟨rfl, rfl⟩⟩
        · omega
      have HL3 := Lib.hid (HL2.out.chg HNw.out)
      have hgr := group_rows wr ag k hk1 (by omega) _ rs HL3.out
      have Hag := Lib.hid hag
      have hsb : -1 ≤ s ∧ s ≤ 1 := by omega
      have HGr := Lib.hid (show ∀ nm, nm = agName ag → Calls Try.prog 41 #[.string nm, .int .i64 k, .slice Al nl cl] wr (GroupPost wr rs ag k) from fun nm e => by rw [e]; exact hgr)
      have hsd : s = -1 ∨ s = 1 := by omega
      clear hgr hs hs1 hag
      have hgo : ∃ K, K = 0 := ⟨0, rfl⟩
      clear hgo
      rcases hsd with rfl | rfl
      all_goals
        go_wp2_with fail
        refine (HGr.out _ (by rcases Hag.out with ⟨rfl, h⟩ | ⟨rfl, h⟩ <;> first | rfl | (exact absurd h (by decide)))).mono ?_
        rintro e w4 ⟨vg, m, res, rfl, hm, hr, hgl, hN4⟩
        have HGR := Lib.hid (GR.of (ag := ag) HCan.out hm hr)
        have hL4 := HL3.out.chg hN4
        have HN4 := Lib.hid (HNw.out.trans hN4 (fun _ _ x => x))
        obtain ⟨Ag', cg, hvg, hg1000⟩ := hgl.form
        subst hvg
        obtain ⟨ng, hng⟩ : ∃ n, res.length = n := ⟨_, rfl⟩
        rw [hng] at hgl hg1000 ⊢
        have HL4 := Lib.hid hL4
        have HGl := Lib.hid hgl
        have Hng := Lib.hid hng
        clear hm hr hgl hN4 hL4 hng HGr HL3 HNw
        go_wp2_with fail
        go_loopw [11] (fun u11 wr => ∃ i : Nat, i ≤ ng ∧ u11 = .int .i64 i ∧ New w4 wr) (fun u _ => ng - (intOf u).toNat)
        case atStart => exact ⟨0, Nat.zero_le _, rfl, Chg.refl _ _⟩
        case round =>
          obtain ⟨i, hig, rfl, hN⟩ := hrel
          have HNw := Lib.hid hN
          clear hN
          by_cases hlt : i < ng
          · obtain ⟨g, hg⟩ : ∃ g, res[i]? = some g := ⟨_, List.getElem?_eq_getElem (by rw [Hng.out]; exact hlt)⟩
            have hgm := List.mem_of_getElem? hg
            have hgk := HGR.out.len g hgm
            obtain ⟨ga, gc, hga, hgat, hg3, hgrow⟩ := HGl.out.row hg
            subst hga
            obtain ⟨gA, gx, hgce, hgarg, hgl1000⟩ := hgrow.arg hgk
            obtain ⟨lg, hlg⟩ : ∃ l, g.args.length = l := ⟨_, rfl⟩
            rw [hlg] at hgce hgk hgl1000
            have hends := HGR.out.ends Hag.out HCan.out hgm
            have HEx := Lib.hid hends.1
            have HAll := Lib.hid hends.2
            have Hgm := Lib.hid hgm
            have HGat := Lib.hid hgat
            have HGrow := Lib.hid hgrow
            have HGce := Lib.hid hgce
            have HGarg := Lib.hid hgarg
            have i0 : (0 : Int) ≤ (i : Int) := by omega
            have i1 : (i : Int) < (ng : Int) := by omega
            clear hg hgat hgrow hgm hgce hgarg hends hlg
            go_wp2_with fail
            go_loopw [12, 13] (fun u12 u13 wx => ∃ (p : Nat) (b : Bool), p ≤ nl ∧ u13 = .int .i64 p ∧ u12 = .bool b ∧ There rs g k p b ∧ New w4 wx) (fun _ u _ => nl - (intOf u).toNat)
            case atStart => exact ⟨0, false, Nat.zero_le _, rfl, rfl, There.zero _ _ _, HNw.out⟩
            case round =>
              obtain ⟨p, b, hpl, rfl, rfl, hth, hN⟩ := hrel
              have HTh := Lib.hid hth
              have HNp := Lib.hid hN
              clear hN HNw hth
              by_cases hlt3 : p < nl
              · obtain ⟨r, hr⟩ : ∃ r, rs[p]? = some r := ⟨_, List.getElem?_eq_getElem (by rw [Hnl.out]; exact hlt3)⟩
                obtain ⟨la, rc, hla, hrat, hr3, hrrow⟩ := HL4.out.row hr
                subst hla
                have hrm := List.mem_of_getElem? hr
                obtain ⟨bo, hbo⟩ : ∃ b, alikeK g r k = b := ⟨_, rfl⟩
                have hali := HGR.out.ali HCan.out Hgm.out hrm
                have hnd := HNp.out.drew
                have Hr := Lib.hid hr
                have Hrm := Lib.hid hrm
                have Hali := Lib.hid hali
                have HAt1 := Lib.hid (HGat.out.chg hnd id)
                have HRow1 := Lib.hid (HGrow.out.chg hnd)
                have HAt2 := Lib.hid (hrat.chg hnd id)
                have HRow2 := Lib.hid (hrrow.chg hnd)
                have HNd := Lib.hid hnd
                have Hbo := Lib.hid hbo
                have HRr := Lib.hid hrrow
                have Hrat := Lib.hid hrat
                have j0 : (0 : Int) ≤ (p : Int) := by omega
                have j1 : (p : Int) < (nl : Int) := by omega
                clear hr hrat hrrow hnd hbo hrm hali
                go_upto_region 18 with fail
                refine wp_region_at (by kernel_rfl) ?_
                generalize wr.drew = wd at HAt1 HRow1 HAt2 HRow2 HNd ⊢
                refine AtN.segN2 0 11 [43, 44, 45, 46, 47, 48, 49, 50, 51, 52, 53] (fun
                  | 0 => fun v _ => v = .slice (some ga) ng cg
                  | 1 => fun v _ => v = .int .i64 i
                  | 2 => fun v _ => v = .pointer (some (ga.add (i * 3)))
                  | 3 => fun v _ => v = .agg gc.toArray
                  | 4 => fun v _ => v = .slice (some la) nl cl
                  | 5 => fun v _ => v = .int .i64 p
                  | 6 => fun v _ => v = .pointer (some (la.add (p * 3)))
                  | 7 => fun v _ => v = .agg rc.toArray
                  | 8 => fun v _ => v = .int .i64 k
                  | 9 => fun v _ => v = .bool bo
                  | 10 => fun v _ => v = .bool (!bo)
                  | _ => fun _ _ => True) (by kernel_rfl) (by kernel_rfl) (by kernel_rfl) (by kernel_rfl) (fun j v w1 w2 hc h => ?_) (fun i hn hi o ho A0 W hN hin hk => ?_) (fun l W5 hN hl hΦ => ?_)
                · match j with
                  | 0 | 1 | 2 | 3 | 4 | 5 | 6 | 7 | 8 | 9 | 10 => exact h
                  | _ + 11 => trivial
                · rcases (show i = 0 ∨ i = 1 ∨ i = 2 ∨ i = 3 ∨ i = 4 ∨ i = 5 ∨ i = 6 ∨ i = 7 ∨ i = 8 ∨ i = 9 ∨ i = 10 by omega) with rfl | rfl | rfl | rfl | rfl | rfl | rfl | rfl | rfl | rfl | rfl
                  · cases ho
                    exact .same (exec_move 10 _ rfl (hk 10 (by kernel_rfl))) rfl
                  · cases ho
                    exact .same (exec_move 11 _ rfl (hk 11 (by kernel_rfl))) rfl
                  · cases ho
                    have h43 : A0.tmps[43]?.getD undef = .slice (some ga) ng cg := hin 0 43 (by kernel_rfl)
                    have h44 : A0.tmps[44]?.getD undef = .int .i64 i := hin 1 44 (by kernel_rfl)
                    exact .same (by simp [go_sem, h43, h44, i0, i1, hlt]) rfl
                  · cases ho
                    have h45 : A0.tmps[45]?.getD undef = .pointer (some (ga.add (i * 3))) := hin 2 45 (by kernel_rfl)
                    exact .same (exec_load 45 _ rfl stRow (ga.add (i * 3)) gc h45 hg3 (HAt1.out.chg hN id)) rfl
                  · cases ho
                    exact .same (exec_move 6 _ rfl (hk 6 (by kernel_rfl))) rfl
                  · cases ho
                    exact .same (exec_move 13 _ rfl (hk 13 (by kernel_rfl))) rfl
                  · cases ho
                    have h47 : A0.tmps[47]?.getD undef = .slice (some la) nl cl := hin 4 47 (by kernel_rfl)
                    have h48 : A0.tmps[48]?.getD undef = .int .i64 p := hin 5 48 (by kernel_rfl)
                    exact .same (by simp [go_sem, h47, h48, j0, j1, hlt3]) rfl
                  · cases ho
                    have h49 : A0.tmps[49]?.getD undef = .pointer (some (la.add (p * 3))) := hin 6 49 (by kernel_rfl)
                    exact .same (exec_load 49 _ rfl stRow (la.add (p * 3)) rc h49 hr3 (HAt2.out.chg hN id)) rfl
                  · cases ho
                    exact .same (exec_move 7 _ rfl (hk 7 (by kernel_rfl))) rfl
                  · cases ho
                    have h46 : A0.tmps[46]?.getD undef = .agg gc.toArray := hin 3 46 (by kernel_rfl)
                    have h50 : A0.tmps[50]?.getD undef = .agg rc.toArray := hin 7 50 (by kernel_rfl)
                    have h51 : A0.tmps[51]?.getD undef = .int .i64 k := hin 8 51 (by kernel_rfl)
                    refine .call (f := 43) (args := #[.agg gc.toArray, .agg rc.toArray, .int .i64 k]) (W' := W) ?_ ((alike11 W gc rc _ _ (HRow1.out.chg hN) (HRow2.out.chg hN) k (by omega)).mono ?_)
                    · simp [go_sem, h46, h50, h51, egA]
                    · rintro e w' ⟨rfl, hc⟩
                      exact ⟨_, rfl, hc, by rw [Hbo.out]; rfl⟩
                  · cases ho
                    have h52 : A0.tmps[52]?.getD undef = .bool bo := hin 9 52 (by kernel_rfl)
                    exact .same (by simp [go_sem, h52]) rfl
                obtain ⟨x43, x44, x45, x46, x47, x48, x49, x50, x51, x52, x53, rfl⟩ : ∃ x43 x44 x45 x46 x47 x48 x49 x50 x51 x52 x53, l = [x43, x44, x45, x46, x47, x48, x49, x50, x51, x52, x53] := by
                  match l, hl with
                  | [x43, x44, x45, x46, x47, x48, x49, x50, x51, x52, x53], _ => exact ⟨_, _, _, _, _, _, _, _, _, _, _, rfl⟩
                obtain rfl : x43 = .slice (some ga) ng cg := hΦ 0 (by decide)
                obtain rfl : x44 = .int .i64 i := hΦ 1 (by decide)
                obtain rfl : x45 = .pointer (some (ga.add (i * 3))) := hΦ 2 (by decide)
                obtain rfl : x46 = .agg gc.toArray := hΦ 3 (by decide)
                obtain rfl : x47 = .slice (some la) nl cl := hΦ 4 (by decide)
                obtain rfl : x48 = .int .i64 p := hΦ 5 (by decide)
                obtain rfl : x49 = .pointer (some (la.add (p * 3))) := hΦ 6 (by decide)
                obtain rfl : x50 = .agg rc.toArray := hΦ 7 (by decide)
                obtain rfl : x51 = .int .i64 k := hΦ 8 (by decide)
                obtain rfl : x52 = .bool bo := hΦ 9 (by decide)
                obtain rfl : x53 = .bool (!bo) := hΦ 10 (by decide)
                simp only [putsL, List.zip_cons_cons, List.zip_nil_left, List.zip_nil_right, List.zip, List.zipWith, Act.put, List.setIfInBounds_toArray, List.set_cons_succ, List.set_cons_zero]
                clear hΦ hl
                refine AtN.done rfl ?_
                have HN5 := Lib.hid (HNd.out.trans hN (fun _ _ x => x))
                clear hN
                cases bo with
                | false =>
                  have HB2 := Lib.hid (HTh.out.no Hr.out Hbo.out)
                  go_wp2_with fail
                  go_roundw
                  case rel => exact ⟨p + 1, b, by omega, by go_num, rfl, HB2.out, HN5.out⟩
                  case measure => simp only [intOf]; omega
                | true =>
                  obtain ⟨hkr, _⟩ := Hali.out.1 Hbo.out
                  obtain ⟨rA, rx, hrce, hrarg, hrl1000⟩ := HRr.out.arg hkr
                  obtain ⟨lr, hlr⟩ : ∃ l, r.args.length = l := ⟨_, rfl⟩
                  rw [hlr] at hrce hkr hrl1000
                  have hnd := HN5.out.drew
                  have hcr : W5.drew.cell? ⟨(la.add (p * 3)).block, (la.add (p * 3)).off + 1, none⟩ = some (.slice (some rA) lr rx) := by
                    have := (Hrat.out.chg hnd id) 1 (.slice (some rA) lr rx) (by rw [hrce]; rfl)
                    rwa [add_succ] at this
                  have hcg : W5.drew.cell? ⟨(ga.add (i * 3)).block, (ga.add (i * 3)).off + 1, none⟩ = some (.slice (some gA) lg gx) := by
                    have := (HGat.out.chg hnd id) 1 (.slice (some gA) lg gx) (by rw [HGce.out]; rfl)
                    rwa [add_succ] at this
                  obtain ⟨vx, hvx⟩ : ∃ v, vr k r = v := ⟨_, rfl⟩
                  obtain ⟨vy, hvy⟩ : ∃ v, vr k g = v := ⟨_, rfl⟩
                  have hax := hrarg.chg hnd id
                  have hay := HGarg.out.chg hnd id
                  rw [hvx] at hax
                  rw [hvy] at hay
                  change At _ _ [.int .i64 vx.k, .int .i64 vx.i, .string vx.t, .slice none 0 0] at hax
                  change At _ _ [.int .i64 vy.k, .int .i64 vy.i, .string vy.t, .slice none 0 0] at hay
                  obtain ⟨c, hc⟩ : ∃ c, cmpV vx vy = c := ⟨_, rfl⟩
                  have hcb := cmpV_bd vx vy
                  rw [hc] at hcb
                  have hcs := HAll.out r Hrm.out Hbo.out
                  rw [hvx, hvy, hc] at hcs
                  have hth2 := HTh.out.yes Hr.out Hbo.out
                  rw [hvx, hvy, hc] at hth2
                  have HTh2 := Lib.hid hth2
                  have HAx := Lib.hid hax
                  have HAy := Lib.hid hay
                  have Hcr := Lib.hid hcr
                  have Hcg := Lib.hid hcg
                  have HNd := Lib.hid hnd
                  have Hc := Lib.hid hc
                  have k0 : (0 : Int) ≤ (k : Int) := by omega
                  have k1 : (k : Int) < (lr : Int) := by omega
                  have k2 : (k : Int) < (lg : Int) := by omega
                  clear hrce hrarg hnd hcr hcg hvx hvy hax hay hc hth2 hlr HTh
                  go_upto_region 19 with fail
                  refine wp_region_at (by kernel_rfl) ?_
                  generalize W5.drew = wf at HAx HAy Hcr Hcg HNd ⊢
                  refine AtN.segN2 0 18 [54, 55, 56, 57, 58, 59, 60, 61, 62, 63, 64, 65, 66, 67, 68, 69, 70, 14] (fun
                    | 0 => fun v _ => v = .slice (some la) nl cl
                    | 1 => fun v _ => v = .int .i64 p
                    | 2 => fun v _ => v = .pointer (some (la.add (p * 3)))
                    | 3 => fun v _ => v = .pointer (some ⟨(la.add (p * 3)).block, (la.add (p * 3)).off + 1, none⟩)
                    | 4 => fun v _ => v = .slice (some rA) lr rx
                    | 5 => fun v _ => v = .int .i64 k
                    | 6 => fun v _ => v = .pointer (some (rA.add (k * 4)))
                    | 7 => fun v _ => v = .agg #[.int .i64 vx.k, .int .i64 vx.i, .string vx.t, .slice none 0 0]
                    | 8 => fun v _ => v = .slice (some ga) ng cg
                    | 9 => fun v _ => v = .int .i64 i
                    | 10 => fun v _ => v = .pointer (some (ga.add (i * 3)))
                    | 11 => fun v _ => v = .pointer (some ⟨(ga.add (i * 3)).block, (ga.add (i * 3)).off + 1, none⟩)
                    | 12 => fun v _ => v = .slice (some gA) lg gx
                    | 13 => fun v _ => v = .int .i64 k
                    | 14 => fun v _ => v = .pointer (some (gA.add (k * 4)))
                    | 15 => fun v _ => v = .agg #[.int .i64 vy.k, .int .i64 vy.i, .string vy.t, .slice none 0 0]
                    | 16 => fun v _ => v = .int .i64 c
                    | 17 => fun v _ => v = .int .i64 c
                    | _ => fun _ _ => True) (by kernel_rfl) (by kernel_rfl) (by kernel_rfl) (by kernel_rfl) (fun j v w1 w2 hc h => ?_) (fun i hn hi o ho A0 W hN hin hk => ?_) (fun l W6 hN hl hΦ => ?_)
                  · match j with
                    | 0 | 1 | 2 | 3 | 4 | 5 | 6 | 7 | 8 | 9 | 10 | 11 | 12 | 13 | 14 | 15 | 16 | 17 => exact h
                    | _ + 18 => trivial
                  · rcases (show i = 0 ∨ i = 1 ∨ i = 2 ∨ i = 3 ∨ i = 4 ∨ i = 5 ∨ i = 6 ∨ i = 7 ∨ i = 8 ∨ i = 9 ∨ i = 10 ∨ i = 11 ∨ i = 12 ∨ i = 13 ∨ i = 14 ∨ i = 15 ∨ i = 16 ∨ i = 17 by omega) with rfl | rfl | rfl | rfl | rfl | rfl | rfl | rfl | rfl | rfl | rfl | rfl | rfl | rfl | rfl | rfl | rfl | rfl
                    · cases ho
                      exact .same (exec_move 6 _ rfl (hk 6 (by kernel_rfl))) rfl
                    · cases ho
                      exact .same (exec_move 13 _ rfl (hk 13 (by kernel_rfl))) rfl
                    · cases ho
                      have h54 : A0.tmps[54]?.getD undef = .slice (some la) nl cl := hin 0 54 (by kernel_rfl)
                      have h55 : A0.tmps[55]?.getD undef = .int .i64 p := hin 1 55 (by kernel_rfl)
                      exact .same (by simp [go_sem, h54, h55, j0, j1, hlt3]) rfl
                    · cases ho
                      have h56 : A0.tmps[56]?.getD undef = .pointer (some (la.add (p * 3))) := hin 2 56 (by kernel_rfl)
                      exact .same (by simp [go_sem, h56]) rfl
                    · cases ho
                      have h57 : A0.tmps[57]?.getD undef = .pointer (some ⟨(la.add (p * 3)).block, (la.add (p * 3)).off + 1, none⟩) := hin 3 57 (by kernel_rfl)
                      have hcc := hN.cellS Hcr.out id
                      exact .same (v := .slice (some rA) lr rx) (by simp [go_sem, h57, hcc]) rfl
                    · cases ho
                      exact .same (exec_move 7 _ rfl (hk 7 (by kernel_rfl))) rfl
                    · cases ho
                      have h58 : A0.tmps[58]?.getD undef = .slice (some rA) lr rx := hin 4 58 (by kernel_rfl)
                      have h59 : A0.tmps[59]?.getD undef = .int .i64 k := hin 5 59 (by kernel_rfl)
                      exact .same (by simp [go_sem, h58, h59, k0, k1, hkr]) rfl
                    · cases ho
                      have h60 : A0.tmps[60]?.getD undef = .pointer (some (rA.add (k * 4))) := hin 6 60 (by kernel_rfl)
                      exact .same (exec_load 60 _ rfl stVal4 (rA.add (k * 4)) [.int .i64 vx.k, .int .i64 vx.i, .string vx.t, .slice none 0 0] h60 rfl (HAx.out.chg hN id)) rfl
                    · cases ho
                      exact .same (exec_move 10 _ rfl (hk 10 (by kernel_rfl))) rfl
                    · cases ho
                      exact .same (exec_move 11 _ rfl (hk 11 (by kernel_rfl))) rfl
                    · cases ho
                      have h62 : A0.tmps[62]?.getD undef = .slice (some ga) ng cg := hin 8 62 (by kernel_rfl)
                      have h63 : A0.tmps[63]?.getD undef = .int .i64 i := hin 9 63 (by kernel_rfl)
                      exact .same (by simp [go_sem, h62, h63, i0, i1, hlt]) rfl
                    · cases ho
                      have h64 : A0.tmps[64]?.getD undef = .pointer (some (ga.add (i * 3))) := hin 10 64 (by kernel_rfl)
                      exact .same (by simp [go_sem, h64]) rfl
                    · cases ho
                      have h65 : A0.tmps[65]?.getD undef = .pointer (some ⟨(ga.add (i * 3)).block, (ga.add (i * 3)).off + 1, none⟩) := hin 11 65 (by kernel_rfl)
                      have hcc := hN.cellS Hcg.out id
                      exact .same (v := .slice (some gA) lg gx) (by simp [go_sem, h65, hcc]) rfl
                    · cases ho
                      exact .same (exec_move 7 _ rfl (hk 7 (by kernel_rfl))) rfl
                    · cases ho
                      have h66 : A0.tmps[66]?.getD undef = .slice (some gA) lg gx := hin 12 66 (by kernel_rfl)
                      have h67 : A0.tmps[67]?.getD undef = .int .i64 k := hin 13 67 (by kernel_rfl)
                      exact .same (by simp [go_sem, h66, h67, k0, k2, hgk]) rfl
                    · cases ho
                      have h68 : A0.tmps[68]?.getD undef = .pointer (some (gA.add (k * 4))) := hin 14 68 (by kernel_rfl)
                      exact .same (exec_load 68 _ rfl stVal4 (gA.add (k * 4)) [.int .i64 vy.k, .int .i64 vy.i, .string vy.t, .slice none 0 0] h68 rfl (HAy.out.chg hN id)) rfl
                    · cases ho
                      have h61 : A0.tmps[61]?.getD undef = .agg #[.int .i64 vx.k, .int .i64 vx.i, .string vx.t, .slice none 0 0] := hin 7 61 (by kernel_rfl)
                      have h69 : A0.tmps[69]?.getD undef = .agg #[.int .i64 vy.k, .int .i64 vy.i, .string vy.t, .slice none 0 0] := hin 15 69 (by kernel_rfl)
                      refine .call (f := 44) (args := #[.agg #[.int .i64 vx.k, .int .i64 vx.i, .string vx.t, .slice none 0 0], .agg #[.int .i64 vy.k, .int .i64 vy.i, .string vy.t, .slice none 0 0]]) (W' := W) ?_ ((cmp_val vx vy W).mono ?_)
                      · simp [go_sem, h61, h69, egC]
                      · rintro e w' ⟨rfl, hc⟩
                        exact ⟨_, rfl, hc, by rw [Hc.out]; rfl⟩
                    · cases ho
                      have h70 : A0.tmps[70]?.getD undef = .int .i64 c := hin 16 70 (by kernel_rfl)
                      exact .same (by simp [go_sem, h70]) rfl
                  obtain ⟨x54, x55, x56, x57, x58, x59, x60, x61, x62, x63, x64, x65, x66, x67, x68, x69, x70, x14, rfl⟩ : ∃ x54 x55 x56 x57 x58 x59 x60 x61 x62 x63 x64 x65 x66 x67 x68 x69 x70 x14, l = [x54, x55, x56, x57, x58, x59, x60, x61, x62, x63, x64, x65, x66, x67, x68, x69, x70, x14] := by
                    match l, hl with
                    | [x54, x55, x56, x57, x58, x59, x60, x61, x62, x63, x64, x65, x66, x67, x68, x69, x70, x14], _ => exact ⟨_, _, _, _, _, _, _, _, _, _, _, _, _, _, _, _, _, _, rfl⟩
                  obtain rfl : x54 = .slice (some la) nl cl := hΦ 0 (by decide)
                  obtain rfl : x55 = .int .i64 p := hΦ 1 (by decide)
                  obtain rfl : x56 = .pointer (some (la.add (p * 3))) := hΦ 2 (by decide)
                  obtain rfl : x57 = .pointer (some ⟨(la.add (p * 3)).block, (la.add (p * 3)).off + 1, none⟩) := hΦ 3 (by decide)
                  obtain rfl : x58 = .slice (some rA) lr rx := hΦ 4 (by decide)
                  obtain rfl : x59 = .int .i64 k := hΦ 5 (by decide)
                  obtain rfl : x60 = .pointer (some (rA.add (k * 4))) := hΦ 6 (by decide)
                  obtain rfl : x61 = .agg #[.int .i64 vx.k, .int .i64 vx.i, .string vx.t, .slice none 0 0] := hΦ 7 (by decide)
                  obtain rfl : x62 = .slice (some ga) ng cg := hΦ 8 (by decide)
                  obtain rfl : x63 = .int .i64 i := hΦ 9 (by decide)
                  obtain rfl : x64 = .pointer (some (ga.add (i * 3))) := hΦ 10 (by decide)
                  obtain rfl : x65 = .pointer (some ⟨(ga.add (i * 3)).block, (ga.add (i * 3)).off + 1, none⟩) := hΦ 11 (by decide)
                  obtain rfl : x66 = .slice (some gA) lg gx := hΦ 12 (by decide)
                  obtain rfl : x67 = .int .i64 k := hΦ 13 (by decide)
                  obtain rfl : x68 = .pointer (some (gA.add (k * 4))) := hΦ 14 (by decide)
                  obtain rfl : x69 = .agg #[.int .i64 vy.k, .int .i64 vy.i, .string vy.t, .slice none 0 0] := hΦ 15 (by decide)
                  obtain rfl : x70 = .int .i64 c := hΦ 16 (by decide)
                  obtain rfl : x14 = .int .i64 c := hΦ 17 (by decide)
                  simp only [putsL, List.zip_cons_cons, List.zip_nil_left, List.zip_nil_right, List.zip, List.zipWith, Act.put, List.setIfInBounds_toArray, List.set_cons_succ, List.set_cons_zero]
                  clear hΦ hl
                  refine AtN.done rfl ?_
                  have HN6 := Lib.hid (HNd.out.trans hN (fun _ _ x => x))
                  clear hN
                  rcases (show c = -1 ∨ c = 0 ∨ c = 1 by omega) with rfl | rfl | rfl <;> first | (exact absurd hcs (by omega)) | skip
                  all_goals cases b
                  all_goals
                    go_wp2_with fail
                    go_roundw
                    case rel => exact ⟨p + 1, _, by omega, by go_num, rfl, HTh2.out, HN6.out⟩
                    case measure => simp only [intOf]; omega
              · have hbt : b = true := by
                  refine HTh.out.2 ?_
                  rw [List.take_of_length_le (by rw [Hnl.out]; omega)]
                  exact HEx.out
                subst hbt
                go_wp2_with fail
                go_roundw
                case rel => exact ⟨i + 1, by omega, by go_num, HNp.out⟩
                case measure => simp only [intOf]; omega
          · have HNe := Lib.hid (HN4.out.trans HNw.out (fun _ _ x => x))
            go_wp2_with fail
            go_roundw
            case rel => exact ⟨_, by first | exact .inr (.inl rfl) | exact .inr (.inr rfl), rfl, HNe.out⟩
            case measure => simp [intOf]
    · have hs3 : s = 3 := by omega
      subst hs3
      have HNe := Lib.hid (HN2.out.trans HNw.out (fun _ _ x => x))
      go_wp2_with fail
      go_ret
      exact ⟨rfl, HNe.out⟩
end Go.Proofs.Ytenkobgeflckdaa
